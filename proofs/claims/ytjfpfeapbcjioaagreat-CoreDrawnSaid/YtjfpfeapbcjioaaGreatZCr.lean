/-
  The texts of this claim, put together: Cr, CrI, CrW, CrE, Cl, ClA, ClK, CrU.
-/
import Derived.LoopTactic
import Derived.Deep.QuietTactic
import Derived.BigQuiet
import Derived.Deep.RegionLaw
import Derived.Test.YtjfpfeapbcjioaaGreatZOmU
import Derived.Test.YtjfpfeapbcjioaaGreatZLib
import Derived.Test.YtjfpfeapbcjioaaGreatZRowD
import Derived.Test.YtjfpfeapbcjioaaGreatZCoP
import Derived.Test.YtjfpfeapbcjioaaGreatZTn
import Derived.Test.YtjfpfeapbcjioaaGreatZOmI
import Derived.Test.YtjfpfeapbcjioaaGreatZOmP
import Derived.Test.YtjfpfeapbcjioaaGreatZDel
import Derived.Test.YtjfpfeapbcjioaaGreatZFree
import Derived.Test.YtjfpfeapbcjioaaGreatZRi
import Derived.Test.YtjfpfeapbcjioaaGreatZEt
set_option linter.unusedSimpArgs false
set_option linter.unusedVariables false
set_option maxHeartbeats 12800000
set_option maxRecDepth 100000
namespace Go.Proofs.YtjfpfeapbcjioaaGreat
section
open Go.RowKit
def crV (v:Crd):Value:=.agg #[.int .i64 v.version,.string v.text]
def crCells (e:En Crd):List Value:=[.string e.1,.int .i64 e.2.version,.string e.2.text]
def crs (es:List (En Crd)):List Value:=es.flatMap crCells
theorem crCells_len (e:En Crd):(crCells e).length=3:=rfl
theorem crs_length (es:List (En Crd)):(crs es).length=es.length*3:=fm_length _ 3 crCells_len es
theorem cr_len {w:World} {F:Nat→Prop} {A:Option Addr} {n:Nat} {es:List (En Crd)} (h:Sl w F 3 A n (crs es)):es.length=n:=by have:=h.1;rw [crs_length] at this;omega
theorem cr_at {w:World} {F:Nat→Prop} {b o n:Nat} {es:List (En Crd)} (h:Sl w F 3 (some ⟨b,o,none⟩) n (crs es)) {k:Nat} {e:En Crd} (hk:es[k]? = some e) :
  w.cell? ⟨b,o+k*3,none⟩=some (.string e.1)∧w.cell? ⟨b,o+k*3+1,none⟩=some (.int .i64 e.2.version)∧w.cell? ⟨b,o+k*3+2,none⟩=some (.string e.2.text):=by
 have hn:0<n:=by have:=cr_len h;have:=(List.getElem?_eq_some_iff.1 hk).1;omega
 exact ⟨sl_at crCells_len h hn hk 0 (by omega),sl_at crCells_len h hn hk 1 (by omega),sl_at crCells_len h hn hk 2 (by omega)⟩
theorem crs_append (a b:List (En Crd)):crs (a++b)=crs a++crs b:=by simp [crs]
theorem crs_take (es:List (En Crd)) (i:Nat):crs (es.take i)=(crs es).take (i*3):=by
 induction es generalizing i with
 | nil=>simp [crs]
 | cons e es ih =>
  cases i with
  | zero=>simp [crs]
  | succ i =>
   simp only [crs,List.take_succ_cons,List.flatMap_cons] at ih ⊢;rw [ih,show (i+1)*3=(crCells e).length+i*3 from by simp [crCells];omega,List.take_length_add_append]
theorem crs_drop (es:List (En Crd)) (i:Nat):crs (es.drop i)=(crs es).drop (i*3):=by
 induction es generalizing i with
 | nil=>simp [crs]
 | cons e es ih =>
  cases i with
  | zero=>simp [crs]
  | succ i =>
   simp only [crs,List.drop_succ_cons,List.flatMap_cons] at ih ⊢;rw [ih,show (i+1)*3=(crCells e).length+i*3 from by simp [crCells];omega,List.drop_length_add_append]
theorem crs_one (es:List (En Crd)):∀ u∈crs es,u.oneCell'=true:=by
 intro u hu;simp only [crs,List.mem_flatMap,crCells,List.mem_cons,List.not_mem_nil,or_false] at hu;obtain ⟨x,_,rfl|rfl|rfl⟩:=hu <;> rfl
theorem r_key (k t:ByteArray) (v:Crd) (w:World):Calls Tryz.prog 208 #[.agg #[.string k,.int .i64 v.version,.string v.text],.string t] w fun e w'=>e = .returned (.int .i64 (Lib.compareBytes (kb k) (kb t)))∧Pure w w':=by
 have hb:=Blk.new w 242 #[.string k,.int .i64 v.version,.string v.text];have hk:Pure w (w.alloc (.cells #[.string k,.int .i64 v.version,.string v.text] 242)):=(Kept.refl _ _).alloc _;have C:=hI (fun w=>cmp_any k t w);go_enter Tryz.func208,Tryz.ntmps208;have hc:=hb.cell;go_wp2_with fail;refine (C.out _).mono ?_;rintro e w' ⟨rfl,rfl⟩;go_wp2;go_ret;exact ⟨rfl,hk⟩
theorem r_bs (es:List (En Crd)) (hr:Rises es) (A:Option Addr) (n c:Nat) (t:ByteArray) (w:World) (F:Nat→Prop) (hs:Sl w F 3 A n (crs es)) (hn:n≤1000000) :
  Calls Tryz.prog 207 #[.slice A n c,.string t,.func (.func 208) #[] #[]] w fun e w'=>e = .returned (.tuple #[.int .i64 (low es (kb t):Nat),.bool (has es (kb t))])∧Pure w w':=by
 have hl:=cr_len hs;have Hr:=hI hr;have Hl:=hI hl;have Hs:=hI hs;clear hl hs hr;go_enter Tryz.func207,Tryz.ntmps207;go_wp2
 go_loopw [9,10] (fun i j wr=>∃ a b:Nat,i = .int .i64 a∧j = .int .i64 b∧a≤b∧b≤n∧Hid ((∀ p e,p<a→es[p]? = some e→kb e.1<kb t)∧(∀ p e,b≤p→es[p]? = some e→¬kb e.1<kb t))∧Pure w wr) (fun i j _=>(intOf j).toNat-(intOf i).toNat)
 case atStart=>exact ⟨0,n,rfl,rfl,Nat.zero_le _,Nat.le_refl _,⟨fun p e h=>by omega,fun p e h h'=>by have:=(List.getElem?_eq_some_iff.1 h').1;have:=Hl.out;omega⟩,Kept.refl _ _⟩
 case round =>
  obtain ⟨a,b,rfl,rfl,hab,hbn,hcut,hp⟩:=hrel
  by_cases hlt:a<b
  ·obtain ⟨m,hm⟩:∃ m,(a+b) / 2=m:=⟨_,rfl⟩
   have hmn:m<n:=by omega
   obtain ⟨e,he⟩:∃ e,es[m]? = some e:=⟨_,List.getElem?_eq_getElem (by have:=Hl.out;omega)⟩
   obtain ⟨bb,oo,rfl,_,_,_⟩:=Hs.out.2 (by omega)
   have hsw:=Hs.out.kept hp (fun _ _ _ h=>h);obtain ⟨hc1,hc2⟩:=cr_at hsw he;have hmd:((a:Int)+(b:Int)) / 2=(m:Int):=by omega
   have hmi:(m:Int)<(n:Int):=by omega
   have hbd:a<m+1∧m<b:=by omega
   have hab2:0≤(a:Int)+(b:Int)∧(a:Int)+(b:Int)≤2000000:=by omega
   have C:=hI (fun w=>r_key e.1 t e.2 w);obtain ⟨V,hV⟩:∃ V,Lib.compareBytes (kb e.1) (kb t)=V:=⟨_,rfl⟩;rw [hV] at C;have hlt0:=cmp_lt (kb e.1) (kb t);rw [hV] at hlt0;obtain ⟨k1,v1⟩:=e;simp only at hc1 hc2 C
   by_cases hv:V<0
   ·have hcut2:Hid ((∀ p e,p<m+1→es[p]? = some e→kb e.1<kb t)∧(∀ p e,b≤p→es[p]? = some e→¬kb e.1<kb t)):=⟨Hr.out.below he (hlt0.1 hv),hcut.out.2⟩
    clear hm hlt0 hV he hsw;go_wp2_with fail;refine (C.out _).mono ?_;rintro e w1 ⟨rfl,hk1⟩;go_wp2
    go_roundw
    case measure=>simp [intOf];omega
    case rel=>exact ⟨m+1,b,by first|rfl|go_num,rfl,by omega,hbn,hcut2,hp.same hk1⟩
   ·have hcut2:Hid ((∀ p e,p<a→es[p]? = some e→kb e.1<kb t)∧(∀ p e,m≤p→es[p]? = some e→¬kb e.1<kb t)):=⟨hcut.out.1,Hr.out.above he (fun h=>hv (hlt0.2 h))⟩
    clear hm hlt0 hV he hsw;go_wp2_with fail;refine (C.out _).mono ?_;rintro e w1 ⟨rfl,hk1⟩;go_wp2
    go_roundw
    case measure=>simp [intOf];omega
    case rel=>exact ⟨a,m,rfl,rfl,by omega,by omega,hcut2,hp.same hk1⟩
  ·obtain rfl:a=b:=by omega
   have hlow:low es (kb t)=a:=low_of es a (by have:=Hl.out;omega) hcut.out.1 (fun e he=>hcut.out.2 a e (Nat.le_refl _) he)
   have Hlow:=hI hlow
   by_cases hin:a<n
   ·obtain ⟨e,he⟩:∃ e,es[a]? = some e:=⟨_,List.getElem?_eq_getElem (by have:=Hl.out;omega)⟩
    obtain ⟨bb,oo,rfl,_,_,_⟩:=Hs.out.2 (by omega)
    have hsw:=Hs.out.kept hp (fun _ _ _ h=>h);obtain ⟨hc1,hc2⟩:=cr_at hsw he;have C:=hI (fun w=>r_key e.1 t e.2 w);obtain ⟨V,hV⟩:∃ V,Lib.compareBytes (kb e.1) (kb t)=V:=⟨_,rfl⟩;rw [hV] at C;have heq0:=cmp_eq0 (kb e.1) (kb t);rw [hV] at heq0;have hhas:has es (kb t)=(V == 0):=by
     unfold has;rw [hlow,he,Bool.eq_iff_iff];simp only [beq_iff_eq];exact heq0.symm
    have Hhas:=hI hhas;obtain ⟨k1,v1⟩:=e;simp only at hc1 hc2 C;have hmi:(a:Int)<(n:Int):=by omega
    clear heq0 hV he hsw hlow hhas hcut;go_wp2_with fail;refine (C.out _).mono ?_;rintro e w1 ⟨rfl,hk1⟩;go_wp2
    go_ret2
    exact ⟨by rw [Hlow.out,Hhas.out];rfl,hp.same hk1⟩
   ·have hhas:has es (kb t)=false:=by
     unfold has;rw [hlow,List.getElem?_eq_none (by have:=Hl.out;omega)]
    have Hhas:=hI hhas;have hmi:¬(a:Int)<(n:Int):=by omega
    clear hlow hhas hcut;go_wp2
    go_ret2
    exact ⟨by rw [Hlow.out,Hhas.out];rfl,hp⟩
def Mr (w:World) (F:Nat→Prop) (g:Nat) (es:List (En Crd)):Prop :=
 F g∧Rises es∧es.length≤100000∧∃ A c,Blk w g 245 #[.slice A es.length c]∧Own w (fun b=>F b∧b≠g) 242 3 (.slice A es.length c) es.length (crs es)
section
variable {w w':World} {F G S:Nat→Prop} {g:Nat} {es:List (En Crd)}
theorem Mr.kept (h:Mr w F g es) (hk:Kept S w w') (hd:∀ b,b<w.heap.size→F b→¬S b):Mr w' F g es:=by
 obtain ⟨h0,h1,h2,A,c,hb,ho⟩:=h;exact ⟨h0,h1,h2,A,c,hb.kept hk (hd g hb.lt h0),ho.kept hk (fun b hl hb=>hd b hl hb.1)⟩
theorem Mr.imp (h:Mr w F g es) (hF:∀ b,b<w.heap.size→F b→G b):Mr w G g es:=by
 obtain ⟨h0,h1,h2,A,c,hb,ho⟩:=h;exact ⟨hF g hb.lt h0,h1,h2,A,c,hb,ho.imp (fun b hl hb=>⟨hF b hl hb.1,hb.2⟩)⟩
end
theorem r_find (w:World) (F:Nat→Prop) (g:Nat) (es:List (En Crd)) (t:ByteArray) (h:Mr w F g es) :
  Calls Tryz.prog 171 #[.pointer (some ⟨g,0,none⟩),.string t] w fun e w'=>e = .returned (.tuple #[.int .i64 (low es (kb t):Nat),.bool (has es (kb t))])∧Pure w w':=by
 obtain ⟨h0,h1,h2,A,c,hb,ho⟩:=h;have C:=hI (r_bs es h1 A es.length c t w _ ho.sl (by omega))
 have hc:=hb.cell;clear hb ho h1 h2;go_enter Tryz.func171,Tryz.ntmps171;go_wp2_with fail;refine (C.out).mono ?_;rintro e w1 ⟨rfl,hk1⟩;go_wp2
 go_ret2
 exact ⟨rfl,hk1⟩
theorem r_len (w:World) (F:Nat→Prop) (g:Nat) (es:List (En Crd)) (h:Mr w F g es) :
  Calls Tryz.prog 182 #[.pointer (some ⟨g,0,none⟩)] w fun e w'=>e = .returned (.int .i64 (es.length:Nat))∧w=w':=by
 obtain ⟨h0,h1,h2,A,c,hb,ho⟩:=h;have hc:=hb.cell;clear hb ho;go_enter Tryz.func182,Tryz.ntmps182;go_wp2;go_ret;exact ⟨rfl,rfl⟩
def mrC (g:Nat) (es:List (En Crd)):Ch:=⟨fun w F=>Mr w F g es,Mr.imp,Mr.kept⟩
theorem r_get (w:World) (F:Nat→Prop) (g:Nat) (es:List (En Crd)) (t:ByteArray) (h:Mr w F g es) :
  Calls Tryz.prog 125 #[.pointer (some ⟨g,0,none⟩),.string t] w fun e w'=>e = .returned (match valAt es (kb t) with|some v=>.tuple #[crV v,.bool true]|none=>.tuple #[(.agg #[.int .i64 0,.string ⟨#[]⟩]),.bool false])∧Pure w w':=by
 have hrA:=(Run.start (F:=fun _=>False) (w:=w) (Ps:=[]) trivial).addBlk #[.int .i64 0,.string ⟨#[]⟩] 173;have hA:=h.kept hrA.kept (fun _ _ _ h=>h);have C:=r_find _ F g es t hA;have hv:=has_val es (kb t);have HrA:=hI hrA;have H:=hI hA;clear h hrA hA;cases hx:valAt es (kb t) with
 | none =>
  rw [hx] at hv;simp only [Option.isSome_none] at hv;rw [hv] at C;have C:=hI C;clear hv hx H;go_enter Tryz.func125,Tryz.ntmps125;go_wp2_with fail;refine (C.out).mono ?_;rintro e w1 ⟨rfl,hk1⟩;have hr1:=(HrA.out.pure hk1).addBlk #[.int .i64 0,.string ⟨#[]⟩] 173;have hc:=(hr1.blk 1 rfl).cell;have hf:=(hr1.blk 1 rfl).frozen;have hr9:=(hr1.set 1 rfl 0 (.int .i64 0)).set 1 rfl 1 (.string ⟨#[]⟩);have Hb9:=hI (hr9.blk 1 rfl)
  have Hr9:=hI hr9;have hcz:=(hr1.blk 0 rfl).cell;clear hr1 hr9;go_wp2;refine bodyPost_ret (results_cell_tmp Tryz.results125 rfl Hb9.out Tryz.underlying173 rfl (by kernel_rfl)) rfl ?_
  exact ⟨rfl,Hr9.out.kept⟩
 | some v =>
  rw [hx] at hv;simp only [Option.isSome_some] at hv;rw [hv] at C;obtain ⟨e,he,hev⟩:∃ e,es[low es (kb t)]? = some e∧e.2=v:=by
   unfold valAt at hx;cases hl:es[low es (kb t)]? with
   | none=>rw [hl] at hx;cases hx
   | some e =>
    rw [hl] at hx;simp only at hx
    split at hx
    ·injection hx with hx;exact ⟨e,rfl,hx⟩
    ·cases hx
  have hk:=(List.getElem?_eq_some_iff.1 he).1;obtain ⟨k1,v1⟩:=e;simp only at hev;subst hev;generalize low es (kb t)=k at *;have He:=hI he;have C:=hI C;have hki:(k:Int)<(es.length:Int):=by omega
  clear hv hx he;go_enter Tryz.func125,Tryz.ntmps125;go_wp2_with fail;refine (C.out).mono ?_;rintro e w1 ⟨rfl,hk1⟩;obtain ⟨h0,h1,h2,A,c,hb,ho⟩:=H.out.kept hk1 (fun _ _ _ h=>h);have hcm:=hb.cell;obtain ⟨b,o,rfl,_,_,_⟩:=ho.sl.2 (by omega)
  obtain ⟨hc1,hc2,hc3⟩:=cr_at ho.sl He.out;simp only at hc1 hc2 hc3;have hr1:=HrA.out.pure hk1;have hc:=(hr1.blk 0 rfl).cell;have hf:=(hr1.blk 0 rfl).frozen;have hr9:=(hr1.set 0 rfl 0 (.int .i64 v1.version)).set 0 rfl 1 (.string v1.text);have Hb9:=hI (hr9.blk 0 rfl);have Hr9:=hI hr9;clear hr1 hr9 hb ho h1;go_wp2;refine bodyPost_ret (results_cell_tmp Tryz.results125 rfl Hb9.out Tryz.underlying173 rfl (by kernel_rfl)) rfl ?_
  exact ⟨rfl,Hr9.out.kept⟩
end
section
open Go.RowKit
def InrP (E:TypeId) (F:Nat→Prop) (n:Nat) (es:List (En Crd)) (w:World) (r:Ending) (w':World):Prop :=
 ∃ A' c',r = .returned (.slice A' (n+1) c')∧Own w' (fun b=>F b∨w.heap.size≤b) E 3 (.slice A' (n+1) c') (n+1) (crs es)∧Kept F w w'
theorem info_r:(Tryz.prog.info? 242).map (fun i=>(i.zero,i.size,i.bytes))=some (some (.agg #[.string ⟨#[]⟩,.int .i64 0,.string ⟨#[]⟩]),3,40):=by kernel_rfl
theorem r_ins_end (es:List (En Crd)) (A:Option Addr) (n c vb:Nat) (e:En Crd) (w:World) (F:Nat→Prop) (ho:Own w F 242 3 (.slice A n c) n (crs es)) (hn:n≤100000) (hv:Blk w vb 242 #[.string e.1,.int .i64 e.2.version,.string e.2.text]) :
  Calls Tryz.prog 184 #[.slice A n c,.int .i64 n,.slice (some ⟨vb,0,none⟩) 1 1] w (InrP 242 F n (es++[e]) w):=by
 have hl:=cr_len ho.sl;obtain ⟨A',c',hAc,hnc,hcm,_,_⟩:=ho.form;obtain ⟨rfl,rfl⟩:A=A'∧c=c':=by injection hAc with h1 _ h2;exact ⟨h1,h2⟩
 unfold maxLen at hcm;have hsv:Sl w (fun b=>b=vb) 3 (some ⟨vb,0,none⟩) 1 (crCells e):=⟨rfl,fun _=>⟨vb,0,rfl,rfl,hv.lt,fun j hj=>by rw [Nat.zero_add,hv.cell];simp [crCells]⟩⟩
 have Ho:=hI ho;have Hsv:=hI hsv;have hcs:(A=none∧n=0∧c=0)∨(∃ g,A=some ⟨g,0,none⟩):=by
  rcases ho.1.2 with ⟨h1,h2⟩|⟨g,cap,cur,h1,_⟩
  ·injection h1 with h1 h3 h4;exact .inl ⟨h1,h3,h4⟩
  ·injection h1 with h1 _ _;exact .inr ⟨g,h1⟩
 clear hl hAc ho hsv hv;rcases hcs with ⟨rfl,rfl,rfl⟩|⟨g,rfl⟩
 ·go_enter Tryz.func184,Tryz.ntmps184
  go_wp2_with (at_builtin;refine held ?_)
  refine unheld ?_;refine gz32 ?_;intro v' w8 ho8 hk8;obtain ⟨A8,c8,rfl,_⟩:=ho8.form;go_wp2;go_ret;refine ⟨A8,c8,rfl,?_,hk8⟩;rw [crs_append];simpa [crs] using ho8.imp (fun b _ h=>by rcases h with h|h;exact .inl h;exact .inr (by omega))
 ·by_cases hcn:c=n
  ·go_enter Tryz.func184,Tryz.ntmps184
   go_wp2_with (at_builtin;refine held ?_)
   refine unheld ?_;refine gz32 ?_;intro v' w8 ho8 hk8;obtain ⟨A8,c8,rfl,_⟩:=ho8.form;go_wp2;go_ret;refine ⟨A8,c8,rfl,?_,hk8⟩;rw [crs_append];simpa [crs] using ho8.imp (fun b _ h=>by rcases h with h|h;exact .inl h;exact .inr (by omega))
  ·go_enter Tryz.func184,Tryz.ntmps184
   go_wp2_with (at_builtin;refine held ?_)
   refine unheld ?_;refine gz32 ?_;intro v' w8 ho8 hk8;obtain ⟨A8,c8,rfl,_⟩:=ho8.form;go_wp2;go_ret;refine ⟨A8,c8,rfl,?_,hk8⟩;rw [crs_append];simpa [crs] using ho8.imp (fun b _ h=>by rcases h with h|h;exact .inl h;exact .inr (by omega))
theorem r_ins_grow (es:List (En Crd)) (A:Option Addr) (n c i vb:Nat) (e:En Crd) (w:World) (F:Nat→Prop) (ho:Own w F 242 3 (.slice A n c) n (crs es)) (hn:n≤100000) (hv:Blk w vb 242 #[.string e.1,.int .i64 e.2.version,.string e.2.text]) (hi:i<n) (hc:c<n+1) :
  Calls Tryz.prog 184 #[.slice A n c,.int .i64 i,.slice (some ⟨vb,0,none⟩) 1 1] w (InrP 242 F n (es.take i++[e]++es.drop i) w):=by
 have hl:=cr_len ho.sl;obtain ⟨g,cur,rfl,hFg,hg,hnc,hcm,hcs,hct⟩:=own_row ho (by omega)
 obtain rfl:c=n:=by omega
 obtain ⟨i0,hi0,hz0,hsz0,hby0⟩:=info_parts info_r;have hz1:¬((i:Int)=(c:Int)):=by omega
 have hroom:(c:Int)<(c:Int)+1:=by omega
 have hin:i≤c:=by omega
 have hci:¬c=i:=by omega
 have hel:(crs es).length=c*3:=by rw [crs_length];omega
 have hcc:∀ j v,(crs es)[j]? = some v→w.cell? ⟨g,j,none⟩=some v:=fun j v hj=>by
  have h:=(List.getElem?_eq_some_iff.1 hj).1;rw [hg.cell,←hj,←hct,List.getElem?_take,if_pos (by omega),Array.getElem?_toList]
 have hmi:((c:Int)+1-(i:Int))=((c+1-i:Nat):Int):=by omega
 have hsum:i+(c+1-i)=c+1:=by omega
 have hap:=fun ty=>run_append_makeK (P:=Tryz.prog) w 243 3 ty 242 i0 _ .i64 .i64 Tryz.underlying243 Tryz.underlying3 hi0 hz0 ⟨g,0,none⟩ i c (c+1-i) ((crs es).take (i*3)) (by rw [List.length_take,hsz0];omega)
  (fun j u hj=>by
   rw [Addr.add_lit,Nat.zero_add];have h:=(List.getElem?_eq_some_iff.1 hj).1;rw [List.length_take] at h;rw [List.getElem?_take,if_pos (by omega)] at hj
   exact hcc j u hj) (by omega) (by omega) (by omega) (by rw [hby0];omega) (by omega)
 rw [hsum] at hap;obtain ⟨cap,hcap⟩:∃ cap,grownCap w (c+1) c 242=cap:=⟨_,rfl⟩;have hge:=grownCap_ge w (c+1) c 242;have hle:=grownCap_le_maxLen w (c+1) c 242 (by unfold maxLen;omega)
 rw [hcap] at hap hge hle;obtain ⟨cur1,hcur1⟩:∃ cur1,((crs es).take (i*3)).toArray++Builtin.zeroCells (Value.agg #[.string ⟨#[]⟩,.int .i64 0,.string ⟨#[]⟩]).cells (c+1-i)++Builtin.zeroCells (Value.agg #[.string ⟨#[]⟩,.int .i64 0,.string ⟨#[]⟩]).cells (cap-(c+1))=cur1:=⟨_,rfl⟩;have hs1:cur1.size=cap*3:=by
  rw [←hcur1];simp only [Array.size_append,List.size_toArray,List.length_take,size_zeroCells,hel];have:(Value.agg #[.string ⟨#[]⟩,.int .i64 0,.string ⟨#[]⟩]).cells.size=3:=by kernel_rfl
  rw [this];omega
 have ht1:cur1.toList.take (i*3)=(crs es).take (i*3):=by
  rw [←hcur1,Array.append_assoc,Array.toList_append,List.take_append_of_le_length (by simp [hel];omega)]
  simp only [List.take_take,Nat.min_self]
 rw [hcur1] at hap;obtain ⟨N,hN⟩:∃ N,w.heap.size=N:=⟨_,rfl⟩;obtain ⟨W1,hW1⟩:∃ W1,w.drew.alloc (.cells cur1 242)=W1:=⟨_,rfl⟩;have hB1:Blk W1 N 242 cur1:=by rw [←hW1,←hN];exact Blk.new w.drew _ _
 have hp1:Pure w W1:=by rw [←hW1];exact (Kept.refl _ w).drew.alloc _
 have hgN:g<N:=by rw [←hN];exact hg.lt
 have hvN:vb<N:=by rw [←hN];exact hv.lt
 rw [hW1,hN] at hap;have hapr:=hI hap;have hcp1:∀ ty dc,(Builtin.copy_ #[243,243] ty #[.slice (some ⟨N,i*3,none⟩) (c+1-i) dc,.slice (some ⟨vb,0,none⟩) 1 1]).run Tryz.prog W1 = .ok (goInt 1) (W1.setRow N (splice cur1.toList (i*3) (crCells e)).toArray):=fun ty dc=>by
  have hmin:Nat.min 1 (c+1-i)=1:=by simp only [Nat.min_def];split <;> omega
  have:=run_copyK (P:=Tryz.prog) W1 243 243 ty 242 3 N (i*3) (c+1-i) dc ⟨vb,0,none⟩ 1 1 cur1 242 (crCells e) Tryz.underlying243 (by rw [hi0];simp [hsz0]) hB1 (by rw [hmin];rfl)
   (fun j v hj=>by rw [Addr.add_lit,Nat.zero_add,(hv.kept hp1 (fun h=>h)).cell];simpa [crCells] using hj) (by rw [hs1];simp [crCells];omega) (by intro u hu;simp [crCells] at hu;rcases hu with rfl|rfl|rfl <;> rfl)
  rw [hmin] at this;rw [this];simp [splice]
 obtain ⟨cur2,hcur2⟩:∃ cur2,splice cur1.toList (i*3) (crCells e)=cur2:=⟨_,rfl⟩;have hs2:cur2.length=cap*3:=by rw [←hcur2,length_splice _ _ _ (by simp [crCells,hs1];omega)];simpa using hs1
 rw [hcur2] at hcp1;obtain ⟨W2,hW2⟩:∃ W2,W1.setRow N cur2.toArray=W2:=⟨_,rfl⟩;have hB2:Blk W2 N 242 cur2.toArray:=by rw [←hW2];exact setRow_blk hB1 _
 have hk2:Kept (· = N) W1 W2:=by rw [←hW2];exact setRow_kept _ _ _
 rw [hW2] at hcp1;have hcp1r:=hI hcp1;have hcp2:∀ ty dc sc,(Builtin.copy_ #[243,243] ty #[.slice (some ⟨N,(i+1)*3,none⟩) (c-i) dc,.slice (some ⟨g,i*3,none⟩) (c-i) sc]).run Tryz.prog W2.drew = .ok (goInt (c-i:Nat)) (W2.drew.setRow N (splice cur2 ((i+1)*3) ((crs es).drop (i*3))).toArray):=fun ty dc sc=>by
  have hmin:Nat.min (c-i) (c-i)=c-i:=Nat.min_self _;have:=run_copyK (P:=Tryz.prog) W2.drew 243 243 ty 242 3 N ((i+1)*3) (c-i) dc ⟨g,i*3,none⟩ (c-i) sc cur2.toArray 242 ((crs es).drop (i*3)) Tryz.underlying243 (by rw [hi0];simp [hsz0]) hB2 (by rw [hmin,List.length_drop,hel];omega)
   (fun j v hj=>by
    rw [Addr.add_lit];rw [List.getElem?_drop] at hj;have h1:=hcc (i*3+j) v hj;have hgk:=(hg.kept hp1 (fun h=>h)).kept hk2 (by omega)
    have h2:=hgk.cell (i*3+j);have h3:=hg.cell (i*3+j);exact (h2.trans h3.symm).trans h1) (by simp [hs2,hel];omega) (by
    intro u hu;have hu':=List.mem_of_mem_drop hu;simp only [crs,List.mem_flatMap,crCells,List.mem_cons,List.not_mem_nil,or_false] at hu';obtain ⟨x,_,rfl|rfl|rfl⟩:=hu' <;> rfl)
  rw [hmin] at this;rw [this];simp [splice]
 obtain ⟨cur3,hcur3⟩:∃ cur3,splice cur2 ((i+1)*3) ((crs es).drop (i*3))=cur3:=⟨_,rfl⟩;have hs3:cur3.length=cap*3:=by rw [←hcur3,length_splice _ _ _ (by simp [hel,hs2];omega)];exact hs2
 have hfin:cur3.take ((c+1)*3)=crs (es.take i++[e]++es.drop i):=by
  have h1:=splice_two cur1.toList (crCells e) ((crs es).drop (i*3)) (i*3) (by simp [crCells,hs1,hel];omega)
  rw [←hcur3,←hcur2,crs_append,crs_append,crs_take,crs_drop,←ht1];have e1:i*3+(crCells e).length=(i+1)*3:=by simp [crCells];omega
  have e2:(i+1)*3+((crs es).drop (i*3)).length=(c+1)*3:=by rw [List.length_drop,hel];omega
  rw [e1,e2] at h1;rw [h1];simp [crs]
 rw [hcur3] at hcp2;have hcp2r:=hI hcp2;have hB3:Blk (W2.drew.setRow N cur3.toArray) N 242 cur3.toArray:=setRow_blk (w:=W2.drew) hB2 _;have hk3:Kept F w (W2.drew.setRow N cur3.toArray):=by
  have h1:Kept (· = N) W1 (W2.drew.setRow N cur3.toArray):=hk2.drew.same (setRow_kept W2.drew N cur3.toArray);exact cz75
 have HB3:=hI hB3;have Hk3:=hI hk3;have HN:=hI hN;clear hap hcp1 hcp2 hB1 hB2 hB3 hk2 hk3 hp1 hcc hW1 hW2 hcur1 hcur2 hcur3 hcap ht1 ho hct hel hN;go_enter Tryz.func184,Tryz.ntmps184;go_wp2_with (at_builtin;refine held ?_);refine unheld ?_;refine gz81 ?_;have hNi:¬cap=i:=by omega
 have hNi1:¬cap=i+1:=by omega
 have hcp1:=hcp1r.out;go_wp2_with (simp only [hcp1]);clear hcp1;have hi1:((i:Int)+1).toNat=i+1:=by omega
 have hwi:IntKind.i64.wrap ((i:Int)+1)=(i:Int)+1:=by rw [IntKind.wrap_i64];omega
 have hb1:(0:Int)≤(i:Int)+1∧(i:Int)+1≤(c:Int)+1:=by omega
 have hb2:(i:Int)≤(c:Int):=by omega
 have hcp2:=hcp2r.out
 go_region
 clear hcp2;go_wp2;go_ret;refine ⟨some ⟨N,0,none⟩,cap,rfl,?_,Hk3.out⟩;refine ⟨⟨by rw [crs_length];simp;omega,.inr ⟨N,cap,cur3.toArray,rfl,Nat.zero_le _,HB3.out,by omega,hle,by simp [hs3],by simpa using hfin⟩⟩,fun b hb=>?_⟩
 simp [Value.ownBlock] at hb;exact .inr (by have:=HN.out;omega)
theorem r_ins_room (es:List (En Crd)) (A:Option Addr) (n c i vb:Nat) (e:En Crd) (w:World) (F:Nat→Prop) (ho:Own w F 242 3 (.slice A n c) n (crs es)) (hn:n≤100000) (hv:Blk w vb 242 #[.string e.1,.int .i64 e.2.version,.string e.2.text]) (hvF:¬F vb) (hi:i<n) (hc:n+1≤c) :
  Calls Tryz.prog 184 #[.slice A n c,.int .i64 i,.slice (some ⟨vb,0,none⟩) 1 1] w (InrP 242 F n (es.take i++[e]++es.drop i) w):=by
 have hl:=cr_len ho.sl;obtain ⟨g,cur,rfl,hFg,hg,hnc,hcm,hcs,hct⟩:=own_row ho (by omega)
 have hcm':=hcm;unfold maxLen at hcm';obtain ⟨i0,hi0,hz0,hsz0,hby0⟩:=info_parts info_r;have hvg:vb≠g:=fun h=>hvF (h ▸ hFg);have hel:(crs es).length=n*3:=by rw [crs_length];omega
 have hcc:∀ j v,(crs es)[j]? = some v→w.cell? ⟨g,j,none⟩=some v:=fun j v hj=>by
  have h:=(List.getElem?_eq_some_iff.1 hj).1;rw [hg.cell,←hj,←hct,List.getElem?_take,if_pos (by omega),Array.getElem?_toList]
 have hov:∀ lb cb,(callFunc 225 #[.slice (some ⟨vb,0,none⟩) 1 1,.slice (some ⟨g,(i+1)*3,none⟩) lb cb]).run Tryz.prog w = .ok (.value (.bool false)) w:=fun lb cb=>by
  rw [run_callFunc_extern Tryz.func225 (by kernel_rfl) (by kernel_rfl) (by kernel_rfl) (e:=Extern.SlicesOverlaps.overlaps #[243,243] #[4]) (by kernel_rfl),
   Lib.run_overlaps_apart w 243 4 242 Tryz.underlying243 3 Tryz.sizeOf242 ⟨vb,0,none⟩ ⟨g,(i+1)*3,none⟩ 1 1 lb cb hvg 242 242 3 cur.size (blk_shape hv) (blk_shape hg) (by omega) (hv.frozen 0) (hv.frozen 3)]
  rfl
 have hcp1:∀ ty dc sc,(Builtin.copy_ #[243,243] ty #[.slice (some ⟨g,(i+1)*3,none⟩) (n-i) dc,.slice (some ⟨g,i*3,none⟩) (n+1-i) sc]).run Tryz.prog w.drew = .ok (goInt (n-i:Nat)) (w.drew.setRow g (splice cur.toList ((i+1)*3) ((crs es).drop (i*3))).toArray):=fun ty dc sc=>by
  have hmin:Nat.min (n+1-i) (n-i)=n-i:=by simp only [Nat.min_def];split <;> omega
  have:=run_copyK (P:=Tryz.prog) w.drew 243 243 ty 242 3 g ((i+1)*3) (n-i) dc ⟨g,i*3,none⟩ (n+1-i) sc cur 242 ((crs es).drop (i*3)) Tryz.underlying243 (by rw [hi0];simp [hsz0]) hg (by rw [hmin,List.length_drop,hel];omega)
   (fun j v hj=>by
    rw [Addr.add_lit];rw [List.getElem?_drop] at hj;exact hcc (i*3+j) v hj) (by simp [hcs,hel];omega) (by
    intro u hu;have hu':=List.mem_of_mem_drop hu;simp only [crs,List.mem_flatMap,crCells,List.mem_cons,List.not_mem_nil,or_false] at hu';obtain ⟨x,_,rfl|rfl|rfl⟩:=hu' <;> rfl)
  rw [hmin] at this;rw [this];simp [splice]
 obtain ⟨cur2,hcur2⟩:∃ cur2,splice cur.toList ((i+1)*3) ((crs es).drop (i*3))=cur2:=⟨_,rfl⟩;have hs2:cur2.length=c*3:=by rw [←hcur2,length_splice _ _ _ (by simp [hel,hcs];omega)];simpa using hcs
 rw [hcur2] at hcp1;obtain ⟨W2,hW2⟩:∃ W2,w.drew.setRow g cur2.toArray=W2:=⟨_,rfl⟩;have hB2:Blk W2 g 242 cur2.toArray:=by rw [←hW2];exact setRow_blk (w:=w.drew) hg _
 have hk2:Kept (· = g) w W2:=by rw [←hW2];exact (Kept.refl _ w).drew.same (setRow_kept w.drew g cur2.toArray)
 rw [hW2] at hcp1;have hcp2:∀ ty dc,(Builtin.copy_ #[243,243] ty #[.slice (some ⟨g,i*3,none⟩) (n+1-i) dc,.slice (some ⟨vb,0,none⟩) 1 1]).run Tryz.prog W2 = .ok (goInt 1) (W2.setRow g (splice cur2 (i*3) (crCells e)).toArray):=fun ty dc=>by
  have hmin:Nat.min 1 (n+1-i)=1:=by simp only [Nat.min_def];split <;> omega
  have:=run_copyK (P:=Tryz.prog) W2 243 243 ty 242 3 g (i*3) (n+1-i) dc ⟨vb,0,none⟩ 1 1 cur2.toArray 242 (crCells e) Tryz.underlying243 (by rw [hi0];simp [hsz0]) hB2 (by rw [hmin];rfl)
   (fun j v hj=>by rw [Addr.add_lit,Nat.zero_add,(hv.kept hk2 hvg).cell];simpa [crCells] using hj) (by simp [crCells,hs2];omega) (by intro u hu;simp [crCells] at hu;rcases hu with rfl|rfl|rfl <;> rfl)
  rw [hmin] at this;rw [this];simp [splice]
 obtain ⟨cur3,hcur3⟩:∃ cur3,splice cur2 (i*3) (crCells e)=cur3:=⟨_,rfl⟩;have hs3:cur3.length=c*3:=by rw [←hcur3,length_splice _ _ _ (by simp [crCells,hs2];omega)];exact hs2
 have hfin:cur3.take ((n+1)*3)=crs (es.take i++[e]++es.drop i):=by
  have h1:=splice_rev cur.toList (crCells e) ((crs es).drop (i*3)) (i*3) (by simp [crCells,hcs,hel];omega)
  have e1:i*3+(crCells e).length=(i+1)*3:=by simp [crCells];omega
  have e2:(i+1)*3+((crs es).drop (i*3)).length=(n+1)*3:=by rw [List.length_drop,hel];omega
  have e3:cur.toList.take (i*3)=(crs es).take (i*3):=by rw [←hct,List.take_take,Nat.min_eq_left (by omega)]
  rw [e1,e2,hcur2,hcur3,e3] at h1;rw [h1,crs_append,crs_append,crs_take,crs_drop];simp [crs]
 rw [hcur3] at hcp2;have hB3:Blk (W2.setRow g cur3.toArray) g 242 cur3.toArray:=setRow_blk hB2 _;have hk3:Kept F w (W2.setRow g cur3.toArray):=(hk2.same (setRow_kept W2 g cur3.toArray)).mono (fun j _ h=>by have h2:j=g:=h;rw [h2];exact hFg)
 have HB3:=hI hB3;have Hk3:=hI hk3;have hcp1r:=hI hcp1;have hcp2r:=hI hcp2;have hovr:=hI hov;clear hcp1 hcp2 hov hB2 hB3 hk2 hk3 hcc hW2 hcur2 hcur3 ho hct hel hcm;have hz1:¬((i:Int)=(n:Int)):=by omega
 have hroom:(n:Int)+1≤(c:Int):=by omega
 have hin:i≤n:=by omega
 have hci:¬c=i:=by omega
 have hci1:¬c=i+1:=by omega
 have hi1:((i:Int)+1).toNat=i+1:=by omega
 have hn1:((n:Int)+1).toNat=n+1:=by omega
 have hwi:IntKind.i64.wrap ((i:Int)+1)=(i:Int)+1:=by rw [IntKind.wrap_i64];omega
 have hb1:(0:Int)≤(i:Int)+1∧(i:Int)+1≤(n:Int)+1:=by omega
 have hb2:(i:Int)≤(n:Int)+1∧(i:Int)≤(n:Int):=by omega
 go_enter Tryz.func184,Tryz.ntmps184
 have hov:=hovr.out;go_wp2_with (simp only [hov]);clear hov;have hcp1:=hcp1r.out
 go_region
 clear hcp1;have hcp2:=hcp2r.out;go_wp2_with (simp only [hcp2]);go_ret;refine ⟨some ⟨g,0,none⟩,c,rfl,?_,Hk3.out⟩;refine ⟨⟨by rw [crs_length];simp;omega,.inr ⟨g,c,cur3.toArray,rfl,Nat.zero_le _,HB3.out,hc,by unfold maxLen;omega,by simp [hs3],by simpa using hfin⟩⟩,fun b hb=>?_⟩
 simp [Value.ownBlock] at hb;subst hb;exact .inl hFg
theorem r_insert (es:List (En Crd)) (A:Option Addr) (n c i vb:Nat) (e:En Crd) (w:World) (F:Nat→Prop) (ho:Own w F 242 3 (.slice A n c) n (crs es)) (hn:n≤100000) (hv:Blk w vb 242 #[.string e.1,.int .i64 e.2.version,.string e.2.text]) (hvF:¬F vb) (hi:i≤n) :
  Calls Tryz.prog 184 #[.slice A n c,.int .i64 i,.slice (some ⟨vb,0,none⟩) 1 1] w (InrP 242 F n (es.take i++[e]++es.drop i) w):=by
 have hl:=cr_len ho.sl
 by_cases h:i=n
 ·subst h
  have:=r_ins_end es A i c vb e w F ho hn hv
  rwa [show es.take i++[e]++es.drop i=es++[e] from by rw [List.take_of_length_le (by omega),List.drop_eq_nil_of_le (by omega),List.append_nil]]
 ·by_cases hc:n+1≤c
  ·exact r_ins_room es A n c i vb e w F ho hn hv hvF (by omega) hc
  ·exact r_ins_grow es A n c i vb e w F ho hn hv (by omega) (by omega)
end
section
open Go.RowKit
def MrP (F:Nat→Prop) (g:Nat) (es:List (En Crd)) (b:Bool) (w:World) (r:Ending) (w':World):Prop :=
 r = .returned (.bool b)∧Mr w' (fun b=>F b∨w.heap.size≤b) g es∧Kept F w w'
def mrL (g:Nat) (A:Option Addr) (n c:Nat) (es:List (En Crd)):List Ch:=[blkC g 245 #[.slice A n c],ownC 242 3 (.slice A n c) n (crs es)]
theorem mr_open {w:World} {F:Nat→Prop} {g:Nat} {es:List (En Crd)} (h:Mr w F g es):∃ A c,Star w F (mrL g A es.length c es):=by
 obtain ⟨h0,h1,h2,A,c,hb,ho⟩:=h;exact ⟨A,c,fun b=>b=g,fun b h=>h ▸ h0,⟨rfl,hb⟩,fun b=>F b∧b≠g,fun b h=>h,ho,trivial⟩
theorem mr_shut {w:World} {F:Nat→Prop} {g c:Nat} {A:Option Addr} {es:List (En Crd)} (h1:Rises es) (h2:es.length≤100000) (h:Star w F (mrL g A es.length c es)):Mr w F g es:=by
 obtain ⟨G,k1,⟨k2,k3⟩,H,m1,m2,_⟩:=h;exact ⟨k1 g k2,h1,h2,A,c,k3,Own.imp m2 (fun b _ h=>⟨(m1 b h).1,fun e=>(m1 b h).2 (e ▸ k2)⟩)⟩
theorem crs_mod {es:List (En Crd)} {i:Nat} {e:En Crd} (he:es[i]? = some e) (v:Crd):((crs es).set (i*3+1) (.int .i64 v.version)).set (i*3+2) (.string v.text)=crs (es.modify i (fun e=>(e.1,v))):=by
 have h1:=fm_set crCells_len (j:=i) (q:=1) (a':=(e.1,⟨v.version,e.2.text⟩)) (v:=.int .i64 v.version) he (by omega) rfl
 have hk:=(List.getElem?_eq_some_iff.1 he).1;have h2:=fm_set crCells_len (l:=es.set i (e.1,⟨v.version,e.2.text⟩)) (j:=i) (q:=2) (a:=(e.1,⟨v.version,e.2.text⟩)) (a':=(e.1,v)) (v:=.string v.text) (List.getElem?_set_self hk) (by omega) rfl
 unfold crs;rw [←h1,←h2,List.set_set]
 congr 1
 refine List.ext_getElem? fun j=>?_;rw [List.getElem?_set,List.getElem?_modify]
 by_cases hj:i=j
 ·subst hj;rw [if_pos rfl,if_pos hk,he];simp
 ·rw [if_neg hj];simp [hj]
theorem r_put (w:World) (F:Nat→Prop) (g:Nat) (es:List (En Crd)) (k:ByteArray) (v:Crd) (h:Mr w F g es) (hn:es.length<100000) :
  Calls Tryz.prog 133 #[.pointer (some ⟨g,0,none⟩),.string k,crV v] w (MrP F g (putE es k v) (!has es (kb k)) w):=by
 have hrp:=rises_put h.2.1 k v;obtain ⟨A,c,hs⟩:=mr_open h;obtain ⟨ver,txt⟩:=v;have hr0:=(Run.start hs).addBlk #[.int .i64 ver,.string txt] 173;have C:=r_find (w.alloc (.cells #[.int .i64 ver,.string txt] 173)) F g es k (h.kept (S:=fun _=>False) ((Kept.refl _ _).alloc _) (fun _ _ _ h=>h));obtain ⟨n,hnn⟩:∃ n,es.length=n:=⟨_,rfl⟩;rw [hnn] at hr0 hn;have hr0:Run w F (w.alloc (.cells #[.int .i64 ver,.string txt] 173)) [blkC w.heap.size 173 #[.int .i64 ver,.string txt],blkC g 245 #[.slice A n c],ownC 242 3 (.slice A n c) n (crs es)]:=hr0
 have Hr0:=hI hr0;have Hnn:=hI hnn;unfold crV;clear hr0 hs;cases hh:has es (kb k) with
 | true =>
  rw [hh] at C;obtain ⟨e,he⟩:∃ e,es[low es (kb k)]? = some e:=by
   cases hl:es[low es (kb k)]? with
   | none=>unfold has at hh;rw [hl] at hh;cases hh
   | some e=>exact ⟨e,rfl⟩
  have hput:putE es k ⟨ver,txt⟩=es.modify (low es (kb k)) (fun e=>(e.1,⟨ver,txt⟩)):=by unfold putE;rw [if_pos hh]
  rw [hput] at hrp ⊢;have hk:=(List.getElem?_eq_some_iff.1 he).1;generalize low es (kb k)=i at *;have C:=hI C;have He:=hI he;have Hrp:=hI hrp;rw [hnn] at hk;have hki:(i:Int)<(n:Int):=by omega
  clear h he hput hrp hh hnn;go_enter Tryz.func133,Tryz.ntmps133;go_wp2_with fail;refine (C.out).mono ?_;rintro e w1 ⟨rfl,hk1⟩;have hr1:=Hr0.out.pure hk1;obtain ⟨gr,rfl⟩:=(hr1.own 2 rfl).head (by omega)
  have hc:=(hr1.blk 1 rfl).cell;have hcb:=(hr1.blk 0 rfl).cell;obtain ⟨hc1,hc2,hc3⟩:=cr_at (hr1.own 2 rfl).sl He.out;rw [Nat.zero_add] at hc1 hc2 hc3;have hf1:=(hr1.own 2 rfl).frozen1 (i*3+1);have hf2:=(hr1.own 2 rfl).frozen1 (i*3+2);have hr9:=(hr1.drew.setN 2 rfl (i*3+1) (.int .i64 ver)).setN 2 rfl (i*3+2) (.string txt);have Hr9:=hI hr9;clear hr1 hr9;go_wp2;refine wp_region_seq [8] [] (by kernel_rfl) (by kernel_rfl) (by kernel_rfl) ?_
  refine gz2 ?_
  with_reducible refine seq_move (by decide) (fun K hK=>?_)
  go_simp;refine up_skip (hK _ _ ?_);clear hK K;refine gz13 ?_;go_wp2;go_ret;have hlen:(es.modify i (fun e=>(e.1,(⟨ver,txt⟩:Crd)))).length=n:=by rw [List.length_modify,Hnn.out]
  have hfin:Run w F ((w1.drew.setCell ⟨gr,i*3+1,none⟩ (.int .i64 ver)).setCell ⟨gr,i*3+2,none⟩ (.string txt)) [blkC w.heap.size 173 #[.int .i64 ver,.string txt],blkC g 245 #[.slice (some ⟨gr,0,none⟩) n c],ownC 242 3 (.slice (some ⟨gr,0,none⟩) n c) n (crs (es.modify i (fun e=>(e.1,(⟨ver,txt⟩:Crd)))))]:=by
   rw [←crs_mod He.out];exact Hr9.out
  exact ⟨rfl,mr_shut Hrp.out (by rw [hlen];omega) (by rw [hlen];exact (hfin.drop 0).star),hfin.kept⟩
 | false =>
  rw [hh] at C;have hput:putE es k ⟨ver,txt⟩=insE es (low es (kb k)) (k,⟨ver,txt⟩):=by unfold putE;rw [if_neg (by rw [hh];simp)]
  rw [hput] at hrp ⊢;have hle:=low_le es (kb k);generalize low es (kb k)=i at *;have C:=hI C;have Hrp:=hI hrp;rw [hnn] at hle;clear h hput hrp hh hnn;go_enter Tryz.func133,Tryz.ntmps133;go_wp2_with fail;refine (C.out).mono ?_;rintro e w1 ⟨rfl,hk1⟩;have hr1:=Hr0.out.pure hk1;have hcx:=(hr1.blk 1 rfl).cell;have hcb:=(hr1.blk 0 rfl).cell;have Hr1:=hI hr1;clear hr1;go_wp2;refine wp_region_late (fun x=>x.cell? ⟨g,0,none⟩=some (.slice A n c)) [9,10,13] [0,1,2,3,4,5] [13] (by kernel_rfl) (by kernel_rfl) (by kernel_rfl) (by kernel_rfl) (hcx 0) ?_
  repeat (with_reducible refine late_free (by decide) (by decide) (fun K hK=>?_);go_simp;first|(refine ex_steadyF ?_ (fun w' hw'=>?_) ?_;rotate_left;(skip;go_simp;first|done|rfl);(refine hK _ _ ?_;clear hK K))|(refine hK _ _ ?_;clear hK K))
  repeat (with_reducible refine late_step (by decide) (by decide) (fun K hK=>?_);go_simp;refine hK _ _ ?_;clear hK K)
  with_reducible refine late_move (by decide) (fun K hK=>?_)
  go_simp;refine up_value ⟨((Hr1.out.drew.alloc (.cells #[.string k,.int .i64 ver,.string txt] 242)).blk 1 rfl).cell 0,?_⟩;refine hK _ _ ?_;clear hK K;obtain ⟨G8,hG8,hp8,hup8⟩:=Hr1.out.drew.atL 2 rfl;have hp8:Own w1.drew G8 242 3 (.slice A n c) n (crs es):=hp8;have c2:=r_insert es A n c i w1.heap.size (k,⟨ver,txt⟩) (w1.drew.alloc (.cells #[.string k,.int .i64 ver,.string txt] 242)) G8 (hp8.alloc _) (by omega) (Blk.new w1.drew _ _) (fun h=>by have:=(hG8 _ h).2;have e:w1.drew.heap.size=w1.heap.size:=rfl;omega) hle
  have C2:=hI c2;have hup9:∀ (w':World) (A':Option Addr) (c':Nat),Own w' (fun b=>G8 b∨(w1.drew.alloc (.cells #[.string k,.int .i64 ver,.string txt] 242)).heap.size≤b) 242 3 (.slice A' (n+1) c') (n+1) (crs (insE es i (k,⟨ver,txt⟩)))→Kept G8 (w1.drew.alloc (.cells #[.string k,.int .i64 ver,.string txt] 242)) w' →
    Run w F w' [blkC w.heap.size 173 #[.int .i64 ver,.string txt],blkC g 245 #[.slice A n c],ownC 242 3 (.slice A' (n+1) c') (n+1) (crs (insE es i (k,⟨ver,txt⟩)))]:=fun w' A' c' h1 h2 =>
   hup8 w' (ownC 242 3 (.slice A' (n+1) c') (n+1) (crs (insE es i (k,⟨ver,txt⟩)))) (Own.imp h1 (fun b _ h=>h.imp id (fun h=>by rw [World.size_alloc] at h;omega))) (((Kept.refl G8 w1.drew).alloc _).same h2)
  have Hup9:=hI hup9;clear c2 hp8 hup8 hG8 hup9
  with_reducible refine late_move (by decide) (fun K hK=>?_)
  go_simp;refine up_enter ((C2.out).mono ?_);rintro e ww ⟨A9,c9,rfl,ho9,hk9⟩;have hr9:=Hup9.out ww A9 c9 ho9 hk9;refine ⟨_,rfl,(hr9.blk 1 rfl).cell 0,?_⟩;refine hK _ _ ?_;clear hK K;have hc9:=(hr9.blk 1 rfl).cell;have hf9:=(hr9.blk 1 rfl).frozen;have hr10:=hr9.set 1 rfl 0 (.slice A9 (n+1) c9);have hr10:Run w F (ww.setCell ⟨g,0,none⟩ (.slice A9 (n+1) c9)) [blkC w.heap.size 173 #[.int .i64 ver,.string txt],blkC g 245 #[.slice A9 (n+1) c9],ownC 242 3 (.slice A9 (n+1) c9) (n+1) (crs (insE es i (k,⟨ver,txt⟩)))]:=hr10
  have Hr10:=hI hr10;clear ho9 hk9 hr9 hr10
  repeat (with_reducible refine late_step (by decide) (by decide) (fun K hK=>?_);go_simp;refine hK _ _ ?_;clear hK K)
  with_reducible refine late_move (by decide) (fun K hK=>?_)
  go_simp;refine up_skip (hK _ _ ?_);clear hK K
  with_reducible refine late_nil ?_
  go_wp2;go_ret;have hlen:(insE es i (k,(⟨ver,txt⟩:Crd))).length=n+1:=by rw [insE_length,Hnn.out]
  exact ⟨rfl,mr_shut Hrp.out (by rw [hlen];omega) (by rw [hlen];exact (Hr10.out.drop 0).star),Hr10.out.kept⟩
end
section
open Go.RowKit
theorem r_del (xs:List Value) (h1:∀ u∈xs,u.oneCell'=true) (A:Option Addr) (n c i j:Nat) (w:World) (F:Nat→Prop) (ho:Own w F 242 3 (.slice A n c) n xs) (hn:n≤1000000) (hij:i≤j) (hj:j≤n) :
  Calls Tryz.prog 183 #[.slice A n c,.int .i64 i,.int .i64 j] w (DelP 242 3 F (n-(j-i)) (xs.take (i*3)++xs.drop (j*3)) w):=by
 have hxl:xs.length=n*3:=ho.1.1
 by_cases hlt:i<j
 ·obtain ⟨g,cur,rfl,hFg,hg,hnc,hcm,hcs,hct⟩:=own_row ho (by omega)
  have hcm':=hcm;unfold maxLen at hcm';obtain ⟨i0,hi0,hz0,hsz0,hby0⟩:=info_parts info_r;have hcc:∀ q v,xs[q]? = some v→w.cell? ⟨g,q,none⟩=some v:=fun q v hq=>by
   have h:=(List.getElem?_eq_some_iff.1 hq).1;rw [hg.cell,←hq,←hct,List.getElem?_take,if_pos (by omega),Array.getElem?_toList]
  have hld:(loadCellsFrom ⟨g,j*3,none⟩ 0 ((n-j)*3) #[]).run Tryz.prog w.drew = .ok (xs.drop (j*3)).toArray w.drew:=by
   have:=run_loadCells_list (P:=Tryz.prog) w.drew ⟨g,j*3,none⟩ (xs.drop (j*3)) (fun q u hq=>by
    rw [Addr.add_lit];rw [List.getElem?_drop] at hq;exact hcc (j*3+q) u hq)
   rw [show (xs.drop (j*3)).length=(n-j)*3 from by rw [List.length_drop,hxl];omega] at this
   exact this
  have hst:(storeCells ⟨g,i*3,none⟩ (xs.drop (j*3))).run Tryz.prog w.drew = .ok () (w.drew.setRow g (splice cur.toList (i*3) (xs.drop (j*3))).toArray):=by
   have:=run_storeCells_at Tryz.prog g (i*3) 242 (xs.drop (j*3)) 0 cur w.drew hg (by rw [List.length_drop,hxl,hcs];omega) (fun u hu=>h1 u (List.mem_of_mem_drop hu))
   rw [this];simp [splice]
  have hap0:∀ ty ad cc,j=n→(Builtin.append_ #[243,243] ty #[.slice (some ⟨g,0,none⟩) i c,.slice ad 0 cc]).run Tryz.prog w.drew =
    .ok (.slice (some ⟨g,0,none⟩) i c) w.drew:=fun ty ad cc _=>by
   cases ad with
   | none=>simp [Builtin.append_,run_underlying Tryz.underlying243,sizeOf,typeInfo,hi0,Builtin.lenOf,Builtin.firstCells,show i≤c by omega,storeCells]
   | some ad =>
    have:=run_append_room (P:=Tryz.prog) w.drew 243 ty 242 i0 Tryz.underlying243 hi0 g i c cur hg ad 0 cc [] (by simp) (by simp) (by simp) (by omega) (by rw [hsz0,hcs];simp;omega)
    rw [this,hsz0,Nat.add_zero];have hself:(cur.toList.take (i*3)++[]++cur.toList.drop (i*3+([]:List Value).length)).toArray=cur:=by simp
    rw [hself,setRow_self w.drew g cur 242 (0,0) hg]
  obtain ⟨cur2,hcur2⟩:∃ cur2,splice cur.toList (i*3) (xs.drop (j*3))=cur2:=⟨_,rfl⟩;have hs2:cur2.length=c*3:=by rw [←hcur2,length_splice _ _ _ (by rw [List.length_drop,hxl];simp [hcs];omega)];simpa using hcs
  have hself:j=n→w.drew.setRow g cur2.toArray=w.drew:=fun he=>by
   have:cur2.toArray=cur:=by
    rw [←hcur2];unfold splice;rw [List.drop_eq_nil_of_le (by rw [hxl,he];exact Nat.le_refl _)]
    simp
   rw [this,setRow_self w.drew g cur 242 (0,0) hg]
  have ht2:cur2.take ((n-(j-i))*3)=xs.take (i*3)++xs.drop (j*3):=by
   rw [←hcur2];unfold splice;rw [←List.append_assoc,List.take_append_of_le_length (by simp [hxl,hcs];omega),List.take_of_length_le (by simp [hxl,hcs];omega),←hct,List.take_take,Nat.min_eq_left (by omega)]
  rw [hcur2] at hst;obtain ⟨W2,hW2⟩:∃ W2,w.drew.setRow g cur2.toArray=W2:=⟨_,rfl⟩;have hB2:Blk W2 g 242 cur2.toArray:=by rw [←hW2];exact setRow_heap w.drew g cur _ 242 (0,0) hg
  have hk2:Kept (· = g) w W2:=by rw [←hW2];exact (Kept.refl _ w).drew.same (setRow_kept w.drew g cur2.toArray)
  rw [hW2] at hst hself;obtain ⟨m,hm⟩:∃ m,n-(j-i)=m:=⟨_,rfl⟩;have hm1:i+(n-j)=m:=by omega
  have hmn:m<n:=by omega
  rw [hm] at ht2 ⊢;obtain ⟨cur3,hcur3⟩:∃ cur3,cur2.take (m*3)++(Builtin.zeroCells ((.agg #[.string ⟨#[]⟩,.int .i64 0,.string ⟨#[]⟩]):Value).cells (n-m)).toList++cur2.drop (m*3+(n-m)*3)=cur3:=⟨_,rfl⟩;have hz5:((.agg #[.string ⟨#[]⟩,.int .i64 0,.string ⟨#[]⟩]):Value).cells.size=3:=by kernel_rfl
  have hs3:cur3.length=c*3:=by
   rw [←hcur3];simp only [List.length_append,List.length_take,List.length_drop,Array.length_toList,size_zeroCells,hz5,hs2];omega
  have hclr:∀ ty cc,(Builtin.clear_ #[243] ty #[.slice (some ⟨g,m*3,none⟩) (n-m) cc]).run Tryz.prog W2 = .ok (.tuple #[]) (W2.setRow g cur3.toArray):=fun ty cc=>by
   have:=run_clearK (P:=Tryz.prog) W2 243 242 ty (.agg #[.string ⟨#[]⟩,.int .i64 0,.string ⟨#[]⟩]) 3 Tryz.underlying243 (fun w=>Tryz.zeroValue242 w) hz5 (by simp [Value.cells,Value.oneCell']) g (m*3) (n-m) cc cur2.toArray 242 hB2 (by rw [List.size_toArray,hs2];omega)
   rw [this];simp only [hcur3]
  have hfin:cur3.take (m*3)=xs.take (i*3)++xs.drop (j*3):=by
   rw [←hcur3,List.append_assoc,List.take_append_of_le_length (by simp [hs2];omega),List.take_take,Nat.min_self,ht2]
  have hlen:(xs.take (i*3)++xs.drop (j*3)).length=m*3:=by simp [hxl];omega
  have hB3:Blk (W2.setRow g cur3.toArray) g 242 cur3.toArray:=setRow_heap W2 g cur2.toArray _ 242 (0,0) hB2;have hkF:Kept F w (W2.setRow g cur3.toArray):=(hk2.same (setRow_kept W2 g cur3.toArray)).mono (fun j _ h=>by have h2:j=g:=h;rw [h2];exact hFg)
  have HB3:=hI hB3;have HkF:=hI hkF;have Hfin:=hI hfin;have Hlen:=hI hlen;have Hs3:=hI hs3;have Hcm:=hI hcm;have Hst:=hI hst;have Hld:=hI hld;have Hap0:=hI hap0;have Hclr:=hI hclr;have Hself:=hI hself;clear hcc hst hld hap0 hclr hB3 hB2 hk2 hkF hfin ht2 hlen hs3 hs2 hcur2 hcur3 hW2 hself hct hcs ho h1 hxl hcm hi0 hz0 hsz0 hby0 hz5;have q1:¬((i:Int)=(j:Int)):=by omega
  have q2:(i:Int)≤(j:Int)∧(j:Int)≤(n:Int)∧(n:Int)≤(c:Int):=by omega
  have q3:i≤c∧j≤c∧m≤c:=by omega
  have q4:¬c=i:=by omega
  have q5:¬c=m:=by omega
  have q6:¬((i:Int)<0)∧¬((j:Int)<0):=by omega
  by_cases hjn:j=n
  ·obtain rfl:m=i:=by omega
   have hself:=Hself.out hjn;subst hjn;have hap0:∀ ty ad cc,(Builtin.append_ #[243,243] ty #[.slice (some ⟨g,0,none⟩) m c,.slice ad 0 cc]).run Tryz.prog w.drew = .ok (.slice (some ⟨g,0,none⟩) m c) w.drew:=fun ty ad cc=>Hap0.out ty ad cc rfl;have Hap0:=hI hap0;have hclr:=Hclr.out;rw [hself] at hclr HB3 HkF;have Hclr:=hI hclr;clear hap0 hclr hself
   by_cases hcj:c=j
   ·subst hcj
    go_enter Tryz.func183,Tryz.ntmps183
    go_wp2;have hap0:=Hap0.out
    go_region
    clear hap0;have hclr:=Hclr.out;go_wp2_with (simp only [hclr]);go_ret;refine ⟨some ⟨g,0,none⟩,c,rfl,?_,HkF.out⟩;refine ⟨⟨by rw [Hlen.out],.inr ⟨g,c,cur3.toArray,rfl,Nat.zero_le _,HB3.out,by omega,Hcm.out,by rw [←Hs3.out];simp,by simpa using Hfin.out⟩⟩,fun b hb=>?_⟩
    simp [Value.ownBlock] at hb;subst hb;exact .inl hFg
   ·go_enter Tryz.func183,Tryz.ntmps183
    go_wp2;have hap0:=Hap0.out
    go_region
    clear hap0;have hclr:=Hclr.out;go_wp2_with (simp only [hclr]);go_ret;refine ⟨some ⟨g,0,none⟩,c,rfl,?_,HkF.out⟩;refine ⟨⟨by rw [Hlen.out],.inr ⟨g,c,cur3.toArray,rfl,Nat.zero_le _,HB3.out,by omega,Hcm.out,by rw [←Hs3.out];simp,by simpa using Hfin.out⟩⟩,fun b hb=>?_⟩
    simp [Value.ownBlock] at hb;subst hb;exact .inl hFg
  ·have hjl:j<n:=by omega
   have q7:¬c=j:=by omega
   have q8:i+(n-j)≤c:=by omega
   go_enter Tryz.func183,Tryz.ntmps183
   go_wp2;have hst:=Hst.out;have hld:=Hld.out
   go_region
   clear hst hld;have hclr:=Hclr.out;go_wp2_with (simp only [hclr]);go_ret;refine ⟨some ⟨g,0,none⟩,c,rfl,?_,HkF.out⟩;refine ⟨⟨by rw [Hlen.out],.inr ⟨g,c,cur3.toArray,rfl,Nat.zero_le _,HB3.out,by omega,Hcm.out,by rw [←Hs3.out];simp,by simpa using Hfin.out⟩⟩,fun b hb=>?_⟩
   simp [Value.ownBlock] at hb;subst hb;exact .inl hFg
 ·obtain rfl:i=j:=by omega
  obtain ⟨A',c',hAc,hnc,hcm,_,_⟩:=ho.form;obtain ⟨rfl,rfl⟩:A=A'∧c=c':=by injection hAc with h1 _ h2;exact ⟨h1,h2⟩
  unfold maxLen at hcm;have Ho:=hI ho;have q1:(i:Int)≤(n:Int)∧(n:Int)≤(c:Int):=by omega
  have q3:i≤c:=by omega
  have q6:¬((i:Int)<0):=by omega
  have hcs:(A=none∧n=0∧c=0)∨(∃ g,A=some ⟨g,0,none⟩):=by
   rcases ho.1.2 with ⟨h1,h2⟩|⟨g,cap,cur,h1,_⟩
   ·injection h1 with h1 h3 h4;exact .inl ⟨h1,h3,h4⟩
   ·injection h1 with h1 _ _;exact .inr ⟨g,h1⟩
  have hx:xs.take (i*3)++xs.drop (i*3)=xs:=List.take_append_drop _ _;have hfin:DelP 242 3 F n xs w (.returned (.slice A n c)) w:=⟨A,c,rfl,ho.imp (fun _ _ h=>.inl h),Kept.refl _ _⟩;rw [hx,Nat.sub_self,Nat.sub_zero];clear hAc ho hx hxl h1;rcases hcs with ⟨rfl,rfl,rfl⟩|⟨g,rfl⟩
  ·obtain rfl:i=0:=by omega
   have Hfin:=hI hfin;clear hfin;go_enter Tryz.func183,Tryz.ntmps183;go_wp2;go_ret;exact Hfin.out
  ·by_cases hci:c=i
   ·obtain rfl:n=i:=by omega
    subst hci;have Hfin:=hI hfin;clear hfin;go_enter Tryz.func183,Tryz.ntmps183;go_wp2;go_ret;exact Hfin.out
   ·by_cases hni:n=i
    ·subst hni
     have Hfin:=hI hfin;clear hfin;go_enter Tryz.func183,Tryz.ntmps183;go_wp2;go_ret;exact Hfin.out
    ·have Hfin:=hI hfin
     clear hfin;go_enter Tryz.func183,Tryz.ntmps183;go_wp2;go_ret;exact Hfin.out
theorem r_mdel (w:World) (F:Nat→Prop) (g:Nat) (es:List (En Crd)) (k:ByteArray) (h:Mr w F g es) :
  Calls Tryz.prog 132 #[.pointer (some ⟨g,0,none⟩),.string k] w (MrP F g (delE es (kb k)) (has es (kb k)) w):=by
 have C:=hI (r_find w F g es k h);have hrp:=rises_del h.2.1 (kb k);have hgF:=h.1;cases hh:has es (kb k) with
 | true =>
  rw [hh] at C;obtain ⟨e,he⟩:∃ e,es[low es (kb k)]? = some e:=by
   cases hl:es[low es (kb k)]? with
   | none=>unfold has at hh;rw [hl] at hh;cases hh
   | some e=>exact ⟨e,rfl⟩
  have hdel:delE es (kb k)=es.eraseIdx (low es (kb k)):=by unfold delE;rw [if_pos hh]
  rw [hdel] at hrp ⊢;have hk:=(List.getElem?_eq_some_iff.1 he).1;have hn1:=h.2.2.1;generalize low es (kb k)=i at *;have H:=hI h;have Hrp:=hI hrp;have hki:(i:Int)<(es.length:Int):=by omega
  have hi1:(0:Int)≤(i:Int)+1∧(i:Int)+1≤1000000:=by omega
  have hwi:IntKind.i64.wrap ((i:Int)+1)=(i:Int)+1:=by rw [IntKind.wrap_i64];omega
  have hlen:(es.eraseIdx i).length=es.length-(i+1-i):=by rw [List.length_eraseIdx];split <;> omega
  obtain ⟨fs,hfs⟩:∃ fs,es.eraseIdx i=fs:=⟨_,rfl⟩;rw [hfs] at hlen ⊢;have Hfs:=hI hfs;clear h he hdel hrp hh hfs;go_enter Tryz.func132,Tryz.ntmps132;go_wp2_with fail;refine (C.out).mono ?_;rintro e w1 ⟨rfl,hk1⟩;obtain ⟨h0,h1,h2,A,c,hb,ho⟩:=H.out.kept hk1 (fun _ _ _ h=>h);have hc:=hb.cell;have c2:=(r_del (crs es) (crs_one es) A es.length c i (i+1) w1 _ ho (by omega) (by omega) (by omega))
  rw [←crs_take,←crs_drop,←crs_append,←List.eraseIdx_eq_take_drop_succ,Hfs.out,←hlen] at c2;have C2:=hI c2;have Hbg:=hI hb;have Hk1:=hI hk1;have hle:fs.length≤100000:=by omega
  clear hb ho h1 hk1 c2 hlen;go_wp2_with fail;refine C2.out.mono ?_;rintro e' w3 ⟨A',c',rfl,ho3,hk3⟩;have hbg3:=Hbg.out.kept hk3 (fun h=>h.2 rfl);have hc3:=hbg3.cell;have hf3:=hbg3.frozen 0;have hb4:=hbg3.set 0 (.slice A' fs.length c');have hks:=(Kept.refl (· = g) w3).setCell (p:=⟨g,0,none⟩) (.inl rfl) (.slice A' fs.length c');have hgl3:g<w3.heap.size:=hbg3.lt;have hgl1:=Hbg.out.lt;have hsz:=Hk1.out.size
  have ho3':Own w3 (fun b=>(F b∨w.heap.size≤b)∧b≠g) 242 3 (.slice A' fs.length c') fs.length (crs (fs)):=ho3.imp (fun b hl hb=>by
   rcases hb with hb|hb
   ·exact ⟨.inl hb.1,hb.2⟩
   ·exact ⟨.inr (by omega),by omega⟩)
  have hown:=ho3'.kept hks (fun b hl hb e=>hb.2 e);have hkF:Kept F w (w3.setCell ⟨g,0,none⟩ (.slice A' fs.length c')):=(((Hk1.out.mono (fun _ _ h=>h.elim)).same (hk3.mono (fun _ _ h=>h.1)))).same (hks.mono (fun j _ h=>by have h2:j=g:=h;rw [h2];exact hgF))
  have Hown:=hI hown;have Hbg:=hI hb4;have HkF:=hI hkF;clear ho3 ho3' hk3 hb4 hbg3 hks hown hkF;go_wp2;go_ret;exact ⟨rfl,⟨.inl hgF,Hfs.out ▸ Hrp.out,hle,A',c',Hbg.out,Hown.out⟩,HkF.out⟩
 | false =>
  rw [hh] at C;have hdel:delE es (kb k)=es:=by unfold delE;rw [if_neg (by rw [hh];simp)]
  rw [hdel] at hrp ⊢;have H:=hI h;clear h hdel hrp hh;go_enter Tryz.func132,Tryz.ntmps132;go_wp2_with fail;refine (C.out).mono ?_;rintro e w1 ⟨rfl,hk1⟩;go_wp2;go_ret;exact cz61
theorem r_new (w:World):Calls Tryz.prog 145 #[] w fun e w'=>e = .returned (.pointer (some ⟨w.heap.size,0,none⟩))∧Mr w' (fun b=>b=w.heap.size) w.heap.size []∧Pure w w':=by
 have h:Mr (w.alloc (.cells #[.slice none 0 0] 245)) (fun b=>b=w.heap.size) w.heap.size [] :=
  ⟨rfl,List.Pairwise.nil,by simp,none,0,Blk.new w _ _,Own.nil _ _ _ _⟩
 have H:=hI h;clear h;go_enter Tryz.func145,Tryz.ntmps145;go_wp2;go_ret;exact ⟨rfl,H.out,(Kept.refl _ _).alloc _⟩
end
section
open Go.RowKit
abbrev pV (g:Nat):Value:=.pointer (some ⟨g,0,none⟩)
abbrev clB (g gc gl:Nat) (c:Cl):Ch:=blkC g 178 #[pV gc,pV gl,.int .i64 c.most,.int .i64 c.bytes,.int .i64 c.latest,.int .i64 c.horizon]
def clL (g gc gl:Nat) (c:Cl):List Ch:=[clB g gc gl c,mrC gc c.cards,riC gl c.lmost c.log]
def ClM (w:World) (F:Nat→Prop) (g:Nat) (c:Cl):Prop:=∃ gc gl,Star w F (clL g gc gl c)
def clC (g:Nat) (c:Cl):Ch:=⟨fun w F=>ClM w F g c,fun ⟨gc,gl,h⟩ hF=>⟨gc,gl,h.imp hF⟩,fun ⟨gc,gl,h⟩ hk hd=>⟨gc,gl,h.kept hk hd⟩⟩
theorem cl_new (w:World) (birth cards log:Int) :
  Calls Tryz.prog 77 #[.int .i64 birth,.int .i64 cards,.int .i64 log] w fun e w'=>∃ g,e = .returned (pV g)∧ClM w' (fun b=>w.heap.size≤b) g (Cl.new birth cards log)∧Pure w w':=by
 have C1:=hI (fun w=>r_new w);have C2:=hI (fun w=>ri_new w log);go_enter Tryz.func77,Tryz.ntmps77;go_wp2_with fail;refine (C1.out _).mono ?_;rintro e w1 ⟨rfl,hm1,hk1⟩;go_wp2_with fail;refine (C2.out _).mono ?_;rintro e w2 ⟨rfl,hm2,hk2⟩;have hr1:=(Run.start (F:=fun _=>False) (w:=w) (Ps:=[]) trivial).add (Q:=riC w1.heap.size (max log 1) []) (hk1.same hk2) (by
  have hz:=hk1.size;exact (riC w1.heap.size (max log 1) []).imp hm2 (fun b _ h=>by omega))
 have hr0:=(Run.start (F:=fun _=>False) (w:=w) (Ps:=[]) trivial).add (Q:=mrC w.heap.size []) hk1 (Mr.imp hm1 (fun b _ h=>by omega))
 have hr2:=hr0.add (Q:=riC w1.heap.size (max log 1) []) hk2 hm2;have hr3:=(hr2.addBlk #[pV w.heap.size,pV w1.heap.size,.int .i64 (max cards 1),.int .i64 0,.int .i64 birth,.int .i64 birth] 178);have Hr3:=hI hr3;clear hr0 hr1 hr2 hr3 hm1 hm2 hk1 hk2;go_wp2;go_ret;have hst:=(Star.perm (List.Perm.cons _ (List.Perm.swap (mrC w.heap.size []) (riC w1.heap.size (max log 1) []) [])) Hr3.out.star).imp (G:=fun b=>w.heap.size≤b) (fun b _ h=>h.elim (fun h=>h.elim) (fun h=>h))
 exact ⟨w2.heap.size,rfl,⟨w.heap.size,w1.heap.size,hst⟩,Hr3.out.kept⟩
theorem cl_len (w:World) (F:Nat→Prop) (g:Nat) (c:Cl) (h:ClM w F g c) :
  Calls Tryz.prog 131 #[pV g] w fun e w'=>e = .returned (.int .i64 (c.cards.length:Nat))∧w'=w:=by
 obtain ⟨gc,gl,h⟩:=h;have hr:=Run.start h;have hc:=(hr.blk 0 rfl).cell;have hm:Mr w (fun b=>F b∨w.heap.size≤b) gc c.cards:=hr.get (P:=mrC gc c.cards) 1 rfl;have C:=hI (r_len w _ gc c.cards hm);clear h hr hm;go_enter Tryz.func131,Tryz.ntmps131;go_wp2_with fail;refine (C.out).mono ?_;rintro e w1 ⟨rfl,e1⟩;obtain rfl:=e1.symm;go_wp2;go_ret;exact ⟨rfl,rfl⟩
theorem cl_bytes (w:World) (F:Nat→Prop) (g:Nat) (c:Cl) (h:ClM w F g c) :
  Calls Tryz.prog 121 #[pV g] w fun e w'=>e = .returned (.int .i64 c.bytes)∧w'=w:=by
 obtain ⟨gc,gl,h⟩:=h;have hc:=((Run.start h).blk 0 rfl).cell;clear h;go_enter Tryz.func121,Tryz.ntmps121;go_wp2;go_ret;exact ⟨rfl,rfl⟩
theorem cl_latest (w:World) (F:Nat→Prop) (g:Nat) (c:Cl) (h:ClM w F g c) :
  Calls Tryz.prog 63 #[pV g] w fun e w'=>e = .returned (.int .i64 c.latest)∧w'=w:=by
 obtain ⟨gc,gl,h⟩:=h;have hc:=((Run.start h).blk 0 rfl).cell;clear h;go_enter Tryz.func63,Tryz.ntmps63;go_wp2;go_ret;exact ⟨rfl,rfl⟩
def ttx:Option Crd→ByteArray|some v=>v.text|none=>⟨#[]⟩
theorem cl_get (w:World) (F:Nat→Prop) (g:Nat) (c:Cl) (uid:ByteArray) (h:ClM w F g c) :
  Reads 61 #[pV g,.string uid] w (.tuple #[.int .i64 (tvr (c.get uid)),.string (ttx (c.get uid)),.bool (c.get uid).isSome]):=by
 obtain ⟨gc,gl,h⟩:=h;have hr:=Run.start h;have hc:=(hr.blk 0 rfl).cell;have hm:Mr w (fun b=>F b∨w.heap.size≤b) gc c.cards:=hr.get (P:=mrC gc c.cards) 1 rfl;have C:=r_get w _ gc c.cards uid hm;unfold Reads Cl.get;clear h hr hm;obtain ⟨V,hV⟩:∃ V,valAt c.cards (kb uid)=V:=⟨_,rfl⟩;rw [hV] at C ⊢;clear hV;cases V with
 | none =>
  simp only [crV,tvr,ttx,Option.isSome] at C ⊢;have C:=hI C;go_enter Tryz.func61,Tryz.ntmps61;go_wp2_with fail;refine (C.out).mono ?_;rintro e w1 ⟨rfl,hk1⟩;have hcB:=(Blk.new w1 173 #[.int .i64 0,.string ⟨#[]⟩]).cell;have hkp:=hk1.alloc (.cells #[.int .i64 0,.string ⟨#[]⟩] 173);go_wp2
  go_quiet (fail)
  go_wp2
  go_ret3
  exact ⟨rfl,hkp.drewN _⟩
 | some v =>
  simp only [crV,tvr,ttx,Option.isSome] at C ⊢;have C:=hI C;go_enter Tryz.func61,Tryz.ntmps61;go_wp2_with fail;refine (C.out).mono ?_;rintro e w1 ⟨rfl,hk1⟩;have hcB:=(Blk.new w1 173 #[.int .i64 v.version,.string v.text]).cell;have hkp:=hk1.alloc (.cells #[.int .i64 v.version,.string v.text] 173);go_wp2
  go_quiet (fail)
  go_wp2
  go_ret3
  exact ⟨rfl,hkp.drewN _⟩
end
section
open Go.RowKit
def OpR.cells (o:OpR):List Value:=[.bool o.del,.string o.uid,.string o.card,.int .i64 o.cond.kind,.int .i64 o.cond.version]
abbrev opB (b:Nat) (o:OpR):Ch:=blkC b 58 #[.bool o.del,.string o.uid,.string o.card,.int .i64 o.cond.kind,.int .i64 o.cond.version]
theorem tsz_ttx (v:Option Crd):tsz v=((ttx v).size:Nat):=by cases v <;> rfl
theorem cl_apply (w:World) (F:Nat→Prop) (g:Nat) (c:Cl) (o:OpR) (token:Int) (h:ClM w F g c) (hok:c.Ok) (hcard:o.card.size≤1000000) :
  Turn 66 #[pV g,.agg #[.bool o.del,.string o.uid,.string o.card,.int .i64 o.cond.kind,.int .i64 o.cond.version],.int .i64 token] w F (.bool (c.apply o token).1) (clC g (c.apply o token).2):=by
 obtain ⟨gc,gl,hs⟩:=h;have hbl:=hok.bytes_le;have htz:=get_tsz hok o.uid;obtain ⟨del,uid,card,cond⟩:=o;simp only at hcard htz;have hr0:=(Run.start hs).addBlk #[.bool del,.string uid,.string card,.int .i64 cond.kind,.int .i64 cond.version] 58;have CG:=cl_get _ _ g c uid ⟨gc,gl,(hr0.drop 0).star⟩;unfold Reads at CG;have Hr0:=hI hr0;obtain ⟨TZ,hTZ⟩:∃ z,tsz (c.get uid)=z:=⟨_,rfl⟩;have hts:((ttx (c.get uid)).size:Int)=TZ:=by rw [←hTZ,tsz_ttx]
 rw [hTZ] at htz;obtain ⟨V,hV⟩:∃ V,c.get uid=V:=⟨_,rfl⟩;rw [hV] at CG hts;obtain ⟨txt,htx⟩:∃ t,ttx V=t:=⟨_,rfl⟩;obtain ⟨vr,hvr⟩:∃ t,tvr V=t:=⟨_,rfl⟩;obtain ⟨th,hth⟩:∃ t,V.isSome=t:=⟨_,rfl⟩;rw [htx,hvr,hth] at CG;rw [htx] at hts;have CG:=hI CG;have HTZ:=hI hTZ;clear hr0 htx hvr;unfold Turn;have hnoD:Cl.no c ⟨del,uid,card,cond⟩ token=(decide (token<c.latest)||((del && !th)||(!del && !th&&decide (c.most≤(c.cards.length:Int))))):=by unfold Cl.no;simp only;rw [hV,hth]
 by_cases h1:token<c.latest
 ·have he:Cl.apply c ⟨del,uid,card,cond⟩ token=(false,c):=by unfold Cl.apply;rw [hnoD,if_pos (by simp [h1])]
  rw [he];have h1':(token<c.latest)=True:=by simpa using h1
  clear he hnoD hV hth hTZ hts h1 hs;go_enter Tryz.func66,Tryz.ntmps66;go_wp2_with fail;refine (CG.out).mono ?_;rintro e w1 ⟨rfl,hk1⟩;have hr1:=Hr0.out.pure hk1;have hc1:=(hr1.blk 1 rfl).cell;have hb1:=(hr1.blk 0 rfl).cell;have CL:=hI (fun m=>cl_len (w1.drewN m) _ g c ⟨gc,gl,((hr1.drewN m).drop 0).star⟩);have Hr1:=hI hr1;clear hr1;go_wp2
  go_quiet ((go_at_call 131;refine Calls.quiet_of_same (CL.out _)))
  go_wp2;go_ret;exact cz78
 ·have h1':(token<c.latest)=False:=by simpa using h1
  cases del with
  | true =>
   cases th with
   | false =>
    have he:Cl.apply c ⟨true,uid,card,cond⟩ token=(false,c):=by unfold Cl.apply;rw [hnoD,if_pos (by simp)]
    rw [he];clear he hnoD hV hth hTZ hts h1 hs;go_enter Tryz.func66,Tryz.ntmps66;go_wp2_with fail;refine (CG.out).mono ?_;rintro e w1 ⟨rfl,hk1⟩;have hr1:=Hr0.out.pure hk1;have hc1:=(hr1.blk 1 rfl).cell;have hb1:=(hr1.blk 0 rfl).cell;have CL:=hI (fun m=>cl_len (w1.drewN m) _ g c ⟨gc,gl,((hr1.drewN m).drop 0).star⟩);have Hr1:=hI hr1;clear hr1;go_wp2
    go_quiet ((go_at_call 131;refine Calls.quiet_of_same (CL.out _)))
    go_wp2;go_ret;exact cz78
   | true =>
    have he:Cl.apply c ⟨true,uid,card,cond⟩ token=(true,c.done ⟨true,uid,card,cond⟩ token):=by unfold Cl.apply;rw [hnoD,if_neg (by simp [h1])]
    rw [he];clear he hnoD hth h1 hs;have hwr:IntKind.i64.wrap (c.bytes-(txt.size:Int))=c.bytes-TZ:=by rw [hts,IntKind.wrap_i64];omega
    have hwr2:IntKind.i64.wrap (c.bytes-TZ+(card.size:Int))=c.bytes-TZ+(card.size:Int):=by rw [IntKind.wrap_i64];omega
    clear hts;go_enter Tryz.func66,Tryz.ntmps66;go_wp2_with fail;refine (CG.out).mono ?_;rintro e w1 ⟨rfl,hk1⟩;have hr1:=Hr0.out.pure hk1;have hc1:=(hr1.blk 1 rfl).cell;have hb1:=(hr1.blk 0 rfl).cell;have CL:=hI (fun m=>cl_len (w1.drewN m) _ g c ⟨gc,gl,((hr1.drewN m).drop 0).star⟩);have Hr1:=hI hr1;clear hr1;go_wp2
    go_quiet ((go_at_call 131;refine Calls.quiet_of_same (CL.out _)))
    generalize hW:World.drewN _ _=W;have hr2:=Hr1.out.drewN nq;rw [hW] at hr2;have hc2:=(hr2.blk 1 rfl).cell;have hb2:=(hr2.blk 0 rfl).cell;have hf2:=(hr2.blk 1 rfl).frozen;have hr3:=hr2.set 1 rfl 3 (.int .i64 (c.bytes-TZ));have hr3:Run w F (W.setCell ⟨g,3,none⟩ (.int .i64 (c.bytes-TZ))) [opB w.heap.size ⟨true,uid,card,cond⟩,blkC g 178 #[pV gc,pV gl,.int .i64 c.most,.int .i64 (c.bytes-TZ),.int .i64 c.latest,.int .i64 c.horizon],mrC gc c.cards,riC gl c.lmost c.log]:=hr3
    have Hr3:=hI hr3;clear hr2 hr3 hc1 hb1 hW CL;go_wp2;generalize hW3:World.setCell _ _ _=W3;rw [hW3] at Hr3;have hc3:=(Hr3.out.blk 1 rfl).cell;have hb3:=(Hr3.out.blk 0 rfl).cell;clear hc2 hb2 hf2 hW3;refine gz59 ?_;refine gz2 ?_;clear hc3 hb3;have CD:=hI (Hr3.out.drew.turn1 2 rfl (r:=.bool (has c.cards (kb uid))) (Q:=mrC gc (delE c.cards (kb uid))) (fun G hG hp=>r_mdel _ G gc c.cards uid hp))
    with_reducible refine seq_move (by decide) (fun K hK=>?_)
    go_simp;refine up_enter ((CD.out).mono ?_);rintro e Wx ⟨rfl,hr4⟩;refine ⟨_,rfl,hK _ _ ?_⟩;clear hK K;have hr4:Run w F Wx [opB w.heap.size ⟨true,uid,card,cond⟩,blkC g 178 #[pV gc,pV gl,.int .i64 c.most,.int .i64 (c.bytes-TZ),.int .i64 c.latest,.int .i64 c.horizon],mrC gc (delE c.cards (kb uid)),riC gl c.lmost c.log]:=hr4;have hc5:=(hr4.blk 1 rfl).cell;have hb5:=(hr4.blk 0 rfl).cell;have Hr5:=hI hr4
    clear hr4 CD;refine gz13 ?_;go_wp2;obtain ⟨⟨log',old⟩,hpl⟩:∃ p,pushL c.log c.lmost ⟨token,uid⟩=p:=⟨_,rfl⟩;have CP:=(fun (wx:World) (Ps:List Ch) (h:Run w F wx Ps) (i:Nat) (hi:Ps[i]? = some (riC gl c.lmost c.log))=>h.turn1 i hi (fun G hG hp=>ri_push _ G gl c.lmost c.log ⟨token,uid⟩ hp hok.lg.1 hok.lg.2.1 hok.lg.2.2));rw [hpl] at CP;have Hpl:=hI hpl;clear hpl;cases old with
    | none =>
     simp only [cgV,Option.isSome] at CP;have CP:=hI CP;refine wp_region_duo 12 8 [12,0,1,2,3,4,5,6,7,8,9,10,11,13,14] [0,1,2,3,4,5,6,7,8,9,10,11,12,13,14] (fun x=>x.cell? ⟨g,1,none⟩=some (pV gl)∧x.cell? ⟨w.heap.size,1,none⟩=some (.string uid)) (fun _=>True) [0,9,13] [1,2,3,4,5,6,7,8,12] [8,12,13] [9,10,11] (by kernel_rfl) (by kernel_rfl) ⟨hc5 1,hb5 1⟩ trivial ?_ ?_
     ·intro gv ov hV
      with_reducible refine view_move hV rfl (by decide) (fun K hK=>?_)
      go_simp;have hr6:=(Hr5.out.addBlk #[.int .i64 0,.string ⟨#[]⟩] 189).drew;have hqs:=And.intro ((hr6.blk 2 rfl).cell 1) ((hr6.blk 1 rfl).cell 1);have CQ:=hI (CP.out _ _ hr6 4 rfl);refine up_value ⟨hqs,hK _ _ ?_⟩;clear hK K hr6 hqs hc5 hb5;refine gz8 ?_
      with_reducible refine view_move hV rfl (by decide) (fun K hK=>?_)
      go_simp;refine up_enter ((CQ.out).mono ?_);rintro e w7 ⟨rfl,hr7⟩;have hqs:=And.intro ((hr7.blk 2 rfl).cell 1) ((hr7.blk 1 rfl).cell 1);refine ⟨_,rfl,hqs,hK _ _ ?_⟩;clear hK K hqs;have hqz:=(hr7.blk 0 rfl).cell;have hqf:=(hr7.blk 0 rfl).frozen;have Hr7:=hI hr7;have hr8:=(hr7.set 0 rfl 0 (.int .i64 0)).set 0 rfl 1 (.string ⟨#[]⟩);have Hr8:=hI hr8;clear hr7 hr8;refine gz9 ?_;refine gz8 ?_
      with_reducible refine view_move hV rfl (by decide) (fun K hK=>?_)
      go_simp;refine up_skip ⟨(And.intro ((Hr8.out.blk 2 rfl).cell 1) ((Hr8.out.blk 1 rfl).cell 1)),hK _ _ ?_⟩;clear hK K;generalize hW8:World.setCell _ _ _=W8;rw [hW8] at Hr8;clear hqz hqf hW8;refine gz9 ?_;refine view_nil ?_;have Hr9:=Hr8;have hcz:=(Hr9.out.blk 2 rfl).cell;have hfz:=(Hr9.out.blk 2 rfl).frozen;have hfin:=Hr9.out.set 2 rfl 4 (.int .i64 token);have Hfin:=hI ((hfin.drop 0).drop 0)
      clear hfin;go_wp2;go_ret;refine ⟨rfl,⟨gc,gl,?_⟩,Hfin.out.kept⟩;have hst:=Hfin.out.star;unfold clL clB Cl.done;simp only [csz,if_true,if_false,Bool.false_eq_true,Int.add_zero];rw [HTZ.out,Hpl.out];exact hst
     ·intro gv ov hV
      refine gz9 ?_;have CQ:=hI (CP.out _ _ Hr5.out.drew 3 rfl)
      with_reducible refine view_move hV rfl (by decide) (fun K hK=>?_)
      go_simp;refine up_enter ((CQ.out).mono ?_);rintro e w6 ⟨rfl,hr6⟩;refine ⟨_,rfl,hK _ _ ?_⟩;clear hK K hc5 hb5;refine gz15 ?_
      with_reducible refine view_move hV rfl (by decide) (fun K hK=>?_)
      go_simp;have Hr8:=hI (hr6.addBlk #[(.int .i64 0),(.string ⟨#[]⟩)] 189);clear hr6;refine up_value (hK _ _ ?_);clear hK K
      with_reducible refine view_move hV rfl (by decide) (fun K hK=>?_)
      go_simp;refine up_skip (hK _ _ ?_);clear hK K;generalize hW8:World.alloc _ _=W8;rw [hW8] at Hr8;clear hW8;refine gz9 ?_;refine view_nil ?_;have Hr9:=Hr8;have hcz:=(Hr9.out.blk 2 rfl).cell;have hfz:=(Hr9.out.blk 2 rfl).frozen;have hfin:=Hr9.out.set 2 rfl 4 (.int .i64 token);have Hfin:=hI ((hfin.drop 0).drop 0);clear hfin;go_wp2;go_ret;refine ⟨rfl,⟨gc,gl,?_⟩,Hfin.out.kept⟩;have hst:=Hfin.out.star
      unfold clL clB Cl.done;simp only [csz,if_true,if_false,Bool.false_eq_true,Int.add_zero];rw [HTZ.out,Hpl.out];exact hst
    | some old =>
     obtain ⟨t0,u0⟩:=old;simp only [cgV,Option.isSome] at CP;have CP:=hI CP;refine wp_region_duo 12 8 [12,0,1,2,3,4,5,6,7,8,9,10,11,13,14] [0,1,2,3,4,5,6,7,8,9,10,11,12,13,14] (fun x=>x.cell? ⟨g,1,none⟩=some (pV gl)∧x.cell? ⟨w.heap.size,1,none⟩=some (.string uid)) (fun _=>True) [0,9,13] [1,2,3,4,5,6,7,8,12] [8,12,13] [9,10,11] (by kernel_rfl) (by kernel_rfl) ⟨hc5 1,hb5 1⟩ trivial ?_ ?_
     ·intro gv ov hV
      with_reducible refine view_move hV rfl (by decide) (fun K hK=>?_)
      go_simp;have hr6:=(Hr5.out.addBlk #[.int .i64 0,.string ⟨#[]⟩] 189).drew;have hqs:=And.intro ((hr6.blk 2 rfl).cell 1) ((hr6.blk 1 rfl).cell 1);have CQ:=hI (CP.out _ _ hr6 4 rfl);refine up_value ⟨hqs,hK _ _ ?_⟩;clear hK K hr6 hqs hc5 hb5;refine gz8 ?_
      with_reducible refine view_move hV rfl (by decide) (fun K hK=>?_)
      go_simp;refine up_enter ((CQ.out).mono ?_);rintro e w7 ⟨rfl,hr7⟩;have hqs:=And.intro ((hr7.blk 2 rfl).cell 1) ((hr7.blk 1 rfl).cell 1);refine ⟨_,rfl,hqs,hK _ _ ?_⟩;clear hK K hqs;have hqz:=(hr7.blk 0 rfl).cell;have hqf:=(hr7.blk 0 rfl).frozen;have Hr7:=hI hr7;have hr8:=(hr7.set 0 rfl 0 (.int .i64 t0)).set 0 rfl 1 (.string u0);have Hr8:=hI hr8;clear hr7 hr8;refine gz9 ?_;refine gz8 ?_
      with_reducible refine view_move hV rfl (by decide) (fun K hK=>?_)
      go_simp;refine up_skip ⟨(And.intro ((Hr8.out.blk 2 rfl).cell 1) ((Hr8.out.blk 1 rfl).cell 1)),hK _ _ ?_⟩;clear hK K;generalize hW8:World.setCell _ _ _=W8;rw [hW8] at Hr8;clear hqz hqf hW8;refine gz9 ?_;refine view_nil ?_;have hq:=(Hr8.out.blk 0 rfl).cell;have hcy:=(Hr8.out.blk 2 rfl).cell;have hfy:=(Hr8.out.blk 2 rfl).frozen;go_wp2;refine gz24 ?_;refine gz2 ?_
      with_reducible refine seq_move (by decide) (fun K hK=>?_)
      go_simp;refine up_skip (hK _ _ ?_);clear hK K;refine gz13 ?_;have hr9:=(Hr8.out.set 2 rfl 5 (.int .i64 (max c.horizon t0))).drew;have Hr9:=hI hr9;clear hr9 hq hcy hfy;generalize hW9:World.drew _=W9;rw [hW9] at Hr9;clear hW9;have hcz:=(Hr9.out.blk 2 rfl).cell;have hfz:=(Hr9.out.blk 2 rfl).frozen;have hfin:=Hr9.out.set 2 rfl 4 (.int .i64 token);have Hfin:=hI ((hfin.drop 0).drop 0);clear hfin
      go_wp2;go_ret;refine ⟨rfl,⟨gc,gl,?_⟩,Hfin.out.kept⟩;have hst:=Hfin.out.star;unfold clL clB Cl.done;simp only [csz,if_true,if_false,Bool.false_eq_true,Int.add_zero];rw [HTZ.out,Hpl.out];exact hst
     ·intro gv ov hV
      refine gz9 ?_;have CQ:=hI (CP.out _ _ Hr5.out.drew 3 rfl)
      with_reducible refine view_move hV rfl (by decide) (fun K hK=>?_)
      go_simp;refine up_enter ((CQ.out).mono ?_);rintro e w6 ⟨rfl,hr6⟩;refine ⟨_,rfl,hK _ _ ?_⟩;clear hK K hc5 hb5;refine gz15 ?_
      with_reducible refine view_move hV rfl (by decide) (fun K hK=>?_)
      go_simp;have Hr8:=hI (hr6.addBlk #[(.int .i64 t0),(.string u0)] 189);clear hr6;refine up_value (hK _ _ ?_);clear hK K
      with_reducible refine view_move hV rfl (by decide) (fun K hK=>?_)
      go_simp;refine up_skip (hK _ _ ?_);clear hK K;generalize hW8:World.alloc _ _=W8;rw [hW8] at Hr8;clear hW8;refine gz9 ?_;refine view_nil ?_;have hq:=(Hr8.out.blk 0 rfl).cell;have hcy:=(Hr8.out.blk 2 rfl).cell;have hfy:=(Hr8.out.blk 2 rfl).frozen;go_wp2;refine gz24 ?_;refine gz2 ?_
      with_reducible refine seq_move (by decide) (fun K hK=>?_)
      go_simp;refine up_skip (hK _ _ ?_);clear hK K;refine gz13 ?_;have hr9:=(Hr8.out.set 2 rfl 5 (.int .i64 (max c.horizon t0))).drew;have Hr9:=hI hr9;clear hr9 hq hcy hfy;generalize hW9:World.drew _=W9;rw [hW9] at Hr9;clear hW9;have hcz:=(Hr9.out.blk 2 rfl).cell;have hfz:=(Hr9.out.blk 2 rfl).frozen;have hfin:=Hr9.out.set 2 rfl 4 (.int .i64 token);have Hfin:=hI ((hfin.drop 0).drop 0);clear hfin
      go_wp2;go_ret;refine ⟨rfl,⟨gc,gl,?_⟩,Hfin.out.kept⟩;have hst:=Hfin.out.star;unfold clL clB Cl.done;simp only [csz,if_true,if_false,Bool.false_eq_true,Int.add_zero];rw [HTZ.out,Hpl.out];exact hst
  | false =>
   cases th with
   | false =>
    by_cases h2:c.most≤(c.cards.length:Int)
    ·have he:Cl.apply c ⟨false,uid,card,cond⟩ token=(false,c):=by unfold Cl.apply;rw [hnoD,if_pos (by simp [h2])]
     rw [he];have h2':(c.most≤(c.cards.length:Int))=True:=by simpa using h2
     clear he hnoD hV hth hTZ hts h1 hs h2;go_enter Tryz.func66,Tryz.ntmps66;go_wp2_with fail;refine (CG.out).mono ?_;rintro e w1 ⟨rfl,hk1⟩;have hr1:=Hr0.out.pure hk1;have hc1:=(hr1.blk 1 rfl).cell;have hb1:=(hr1.blk 0 rfl).cell;have CL:=hI (fun m=>cl_len (w1.drewN m) _ g c ⟨gc,gl,((hr1.drewN m).drop 0).star⟩);have Hr1:=hI hr1;clear hr1;go_wp2
     go_quiet ((go_at_call 131;refine Calls.quiet_of_same (CL.out _)))
     go_wp2;go_ret;exact cz78
    ·have he:Cl.apply c ⟨false,uid,card,cond⟩ token=(true,c.done ⟨false,uid,card,cond⟩ token):=by unfold Cl.apply;rw [hnoD,if_neg (by simp [h1];omega)]
     rw [he];have h2':(c.most≤(c.cards.length:Int))=False:=by simpa using h2
     clear he hnoD hth h1 hs h2;have hwr:IntKind.i64.wrap (c.bytes-(txt.size:Int))=c.bytes-TZ:=by rw [hts,IntKind.wrap_i64];omega
     have hwr2:IntKind.i64.wrap (c.bytes-TZ+(card.size:Int))=c.bytes-TZ+(card.size:Int):=by rw [IntKind.wrap_i64];omega
     clear hts;go_enter Tryz.func66,Tryz.ntmps66;go_wp2_with fail;refine (CG.out).mono ?_;rintro e w1 ⟨rfl,hk1⟩;have hr1:=Hr0.out.pure hk1;have hc1:=(hr1.blk 1 rfl).cell;have hb1:=(hr1.blk 0 rfl).cell;have CL:=hI (fun m=>cl_len (w1.drewN m) _ g c ⟨gc,gl,((hr1.drewN m).drop 0).star⟩);have Hr1:=hI hr1;clear hr1;go_wp2
     go_quiet ((go_at_call 131;refine Calls.quiet_of_same (CL.out _)))
     generalize hW:World.drewN _ _=W;have hr2:=Hr1.out.drewN nq;rw [hW] at hr2;have hc2:=(hr2.blk 1 rfl).cell;have hb2:=(hr2.blk 0 rfl).cell;have hf2:=(hr2.blk 1 rfl).frozen;have hr3:=hr2.set 1 rfl 3 (.int .i64 (c.bytes-TZ));have hr3:Run w F (W.setCell ⟨g,3,none⟩ (.int .i64 (c.bytes-TZ))) [opB w.heap.size ⟨false,uid,card,cond⟩,blkC g 178 #[pV gc,pV gl,.int .i64 c.most,.int .i64 (c.bytes-TZ),.int .i64 c.latest,.int .i64 c.horizon],mrC gc c.cards,riC gl c.lmost c.log]:=hr3
     have Hr3:=hI hr3;clear hr2 hr3 hc1 hb1 hW CL;go_wp2;generalize hW3:World.setCell _ _ _=W3;rw [hW3] at Hr3;have hc3:=(Hr3.out.blk 1 rfl).cell;have hb3:=(Hr3.out.blk 0 rfl).cell;clear hc2 hb2 hf2 hW3;refine gz24 ?_;refine gz2 ?_;clear hc3 hb3;have CD:=hI (Hr3.out.drew.turn1 2 rfl (r:=.bool (!has c.cards (kb uid))) (Q:=mrC gc (putE c.cards uid ⟨token,card⟩)) (fun G hG hp=>r_put _ G gc c.cards uid ⟨token,card⟩ hp (by have:=hok.cm;omega)))
     with_reducible refine seq_move (by decide) (fun K hK=>?_)
     go_simp;refine up_enter ((CD.out).mono ?_);rintro e w4 ⟨rfl,hr4⟩;refine ⟨_,rfl,hK _ _ ?_⟩;clear hK K;have hr4:Run w F w4 [opB w.heap.size ⟨false,uid,card,cond⟩,blkC g 178 #[pV gc,pV gl,.int .i64 c.most,.int .i64 (c.bytes-TZ),.int .i64 c.latest,.int .i64 c.horizon],mrC gc (putE c.cards uid ⟨token,card⟩),riC gl c.lmost c.log]:=hr4;have hc4:=(hr4.blk 1 rfl).cell;have hb4:=(hr4.blk 0 rfl).cell;have hf4:=(hr4.blk 1 rfl).frozen
     have hr5:=hr4.set 1 rfl 3 (.int .i64 (c.bytes-TZ+(card.size:Int)));have hr5:Run w F (w4.setCell ⟨g,3,none⟩ (.int .i64 (c.bytes-TZ+(card.size:Int)))) [opB w.heap.size ⟨false,uid,card,cond⟩,blkC g 178 #[pV gc,pV gl,.int .i64 c.most,.int .i64 (c.bytes-TZ+(card.size:Int)),.int .i64 c.latest,.int .i64 c.horizon],mrC gc (putE c.cards uid ⟨token,card⟩),riC gl c.lmost c.log]:=hr5;have Hr5:=hI hr5
     clear hr4 hr5 CD;refine gz13 ?_;go_wp2;refine gz24 ?_;refine gz2 ?_
     with_reducible refine seq_move (by decide) (fun K hK=>?_)
     go_simp;refine up_skip (hK _ _ ?_);clear hK K;refine gz13 ?_;generalize hW5:World.setCell _ _ _=W5;rw [hW5] at Hr5;have Hr5:=hI Hr5.out.drew;generalize hW6:World.drew _=Wx;rw [hW6] at Hr5;have hc5:=(Hr5.out.blk 1 rfl).cell;have hb5:=(Hr5.out.blk 0 rfl).cell;clear hc4 hb4 hf4 hW5 hW6;go_wp2;obtain ⟨⟨log',old⟩,hpl⟩:∃ p,pushL c.log c.lmost ⟨token,uid⟩=p:=⟨_,rfl⟩;have CP:=(fun (wx:World) (Ps:List Ch) (h:Run w F wx Ps) (i:Nat) (hi:Ps[i]? = some (riC gl c.lmost c.log))=>h.turn1 i hi (fun G hG hp=>ri_push _ G gl c.lmost c.log ⟨token,uid⟩ hp hok.lg.1 hok.lg.2.1 hok.lg.2.2))
     rw [hpl] at CP;have Hpl:=hI hpl;clear hpl;cases old with
     | none =>
      simp only [cgV,Option.isSome] at CP;have CP:=hI CP;refine wp_region_duo 12 8 [12,0,1,2,3,4,5,6,7,8,9,10,11,13,14] [0,1,2,3,4,5,6,7,8,9,10,11,12,13,14] (fun x=>x.cell? ⟨g,1,none⟩=some (pV gl)∧x.cell? ⟨w.heap.size,1,none⟩=some (.string uid)) (fun _=>True) [0,9,13] [1,2,3,4,5,6,7,8,12] [8,12,13] [9,10,11] (by kernel_rfl) (by kernel_rfl) ⟨hc5 1,hb5 1⟩ trivial ?_ ?_
      ·intro gv ov hV
       with_reducible refine view_move hV rfl (by decide) (fun K hK=>?_)
       go_simp;have hr6:=(Hr5.out.addBlk #[.int .i64 0,.string ⟨#[]⟩] 189).drew;have hqs:=And.intro ((hr6.blk 2 rfl).cell 1) ((hr6.blk 1 rfl).cell 1);have CQ:=hI (CP.out _ _ hr6 4 rfl);refine up_value ⟨hqs,hK _ _ ?_⟩;clear hK K hr6 hqs hc5 hb5;refine gz8 ?_
       with_reducible refine view_move hV rfl (by decide) (fun K hK=>?_)
       go_simp;refine up_enter ((CQ.out).mono ?_);rintro e w7 ⟨rfl,hr7⟩;have hqs:=And.intro ((hr7.blk 2 rfl).cell 1) ((hr7.blk 1 rfl).cell 1);refine ⟨_,rfl,hqs,hK _ _ ?_⟩;clear hK K hqs;have hqz:=(hr7.blk 0 rfl).cell;have hqf:=(hr7.blk 0 rfl).frozen;have Hr7:=hI hr7;have hr8:=(hr7.set 0 rfl 0 (.int .i64 0)).set 0 rfl 1 (.string ⟨#[]⟩);have Hr8:=hI hr8;clear hr7 hr8;refine gz9 ?_;refine gz8 ?_
       with_reducible refine view_move hV rfl (by decide) (fun K hK=>?_)
       go_simp;refine up_skip ⟨(And.intro ((Hr8.out.blk 2 rfl).cell 1) ((Hr8.out.blk 1 rfl).cell 1)),hK _ _ ?_⟩;clear hK K;generalize hW8:World.setCell _ _ _=W8;rw [hW8] at Hr8;clear hqz hqf hW8;refine gz9 ?_;refine view_nil ?_;have Hr9:=Hr8;have hcz:=(Hr9.out.blk 2 rfl).cell;have hfz:=(Hr9.out.blk 2 rfl).frozen;have hfin:=Hr9.out.set 2 rfl 4 (.int .i64 token);have Hfin:=hI ((hfin.drop 0).drop 0)
       clear hfin;go_wp2;go_ret;refine ⟨rfl,⟨gc,gl,?_⟩,Hfin.out.kept⟩;have hst:=Hfin.out.star;unfold clL clB Cl.done;simp only [csz,if_true,if_false,Bool.false_eq_true,Int.add_zero];rw [HTZ.out,Hpl.out];exact hst
      ·intro gv ov hV
       refine gz9 ?_;have CQ:=hI (CP.out _ _ Hr5.out.drew 3 rfl)
       with_reducible refine view_move hV rfl (by decide) (fun K hK=>?_)
       go_simp;refine up_enter ((CQ.out).mono ?_);rintro e w6 ⟨rfl,hr6⟩;refine ⟨_,rfl,hK _ _ ?_⟩;clear hK K hc5 hb5;refine gz15 ?_
       with_reducible refine view_move hV rfl (by decide) (fun K hK=>?_)
       go_simp;have Hr8:=hI (hr6.addBlk #[(.int .i64 0),(.string ⟨#[]⟩)] 189);clear hr6;refine up_value (hK _ _ ?_);clear hK K
       with_reducible refine view_move hV rfl (by decide) (fun K hK=>?_)
       go_simp;refine up_skip (hK _ _ ?_);clear hK K;generalize hW8:World.alloc _ _=W8;rw [hW8] at Hr8;clear hW8;refine gz9 ?_;refine view_nil ?_;have Hr9:=Hr8;have hcz:=(Hr9.out.blk 2 rfl).cell;have hfz:=(Hr9.out.blk 2 rfl).frozen;have hfin:=Hr9.out.set 2 rfl 4 (.int .i64 token);have Hfin:=hI ((hfin.drop 0).drop 0);clear hfin;go_wp2;go_ret;refine ⟨rfl,⟨gc,gl,?_⟩,Hfin.out.kept⟩;have hst:=Hfin.out.star
       unfold clL clB Cl.done;simp only [csz,if_true,if_false,Bool.false_eq_true,Int.add_zero];rw [HTZ.out,Hpl.out];exact hst
     | some old =>
      obtain ⟨t0,u0⟩:=old;simp only [cgV,Option.isSome] at CP;have CP:=hI CP;refine wp_region_duo 12 8 [12,0,1,2,3,4,5,6,7,8,9,10,11,13,14] [0,1,2,3,4,5,6,7,8,9,10,11,12,13,14] (fun x=>x.cell? ⟨g,1,none⟩=some (pV gl)∧x.cell? ⟨w.heap.size,1,none⟩=some (.string uid)) (fun _=>True) [0,9,13] [1,2,3,4,5,6,7,8,12] [8,12,13] [9,10,11] (by kernel_rfl) (by kernel_rfl) ⟨hc5 1,hb5 1⟩ trivial ?_ ?_
      ·intro gv ov hV
       with_reducible refine view_move hV rfl (by decide) (fun K hK=>?_)
       go_simp;have hr6:=(Hr5.out.addBlk #[.int .i64 0,.string ⟨#[]⟩] 189).drew;have hqs:=And.intro ((hr6.blk 2 rfl).cell 1) ((hr6.blk 1 rfl).cell 1);have CQ:=hI (CP.out _ _ hr6 4 rfl);refine up_value ⟨hqs,hK _ _ ?_⟩;clear hK K hr6 hqs hc5 hb5;refine gz8 ?_
       with_reducible refine view_move hV rfl (by decide) (fun K hK=>?_)
       go_simp;refine up_enter ((CQ.out).mono ?_);rintro e w7 ⟨rfl,hr7⟩;have hqs:=And.intro ((hr7.blk 2 rfl).cell 1) ((hr7.blk 1 rfl).cell 1);refine ⟨_,rfl,hqs,hK _ _ ?_⟩;clear hK K hqs;have hqz:=(hr7.blk 0 rfl).cell;have hqf:=(hr7.blk 0 rfl).frozen;have Hr7:=hI hr7;have hr8:=(hr7.set 0 rfl 0 (.int .i64 t0)).set 0 rfl 1 (.string u0);have Hr8:=hI hr8;clear hr7 hr8;refine gz9 ?_;refine gz8 ?_
       with_reducible refine view_move hV rfl (by decide) (fun K hK=>?_)
       go_simp;refine up_skip ⟨(And.intro ((Hr8.out.blk 2 rfl).cell 1) ((Hr8.out.blk 1 rfl).cell 1)),hK _ _ ?_⟩;clear hK K;generalize hW8:World.setCell _ _ _=W8;rw [hW8] at Hr8;clear hqz hqf hW8;refine gz9 ?_;refine view_nil ?_;have hq:=(Hr8.out.blk 0 rfl).cell;have hcy:=(Hr8.out.blk 2 rfl).cell;have hfy:=(Hr8.out.blk 2 rfl).frozen;go_wp2;refine gz24 ?_;refine gz2 ?_
       with_reducible refine seq_move (by decide) (fun K hK=>?_)
       go_simp;refine up_skip (hK _ _ ?_);clear hK K;refine gz13 ?_;have hr9:=(Hr8.out.set 2 rfl 5 (.int .i64 (max c.horizon t0))).drew;have Hr9:=hI hr9;clear hr9 hq hcy hfy;generalize hW9:World.drew _=W9;rw [hW9] at Hr9;clear hW9;have hcz:=(Hr9.out.blk 2 rfl).cell;have hfz:=(Hr9.out.blk 2 rfl).frozen;have hfin:=Hr9.out.set 2 rfl 4 (.int .i64 token);have Hfin:=hI ((hfin.drop 0).drop 0);clear hfin
       go_wp2;go_ret;refine ⟨rfl,⟨gc,gl,?_⟩,Hfin.out.kept⟩;have hst:=Hfin.out.star;unfold clL clB Cl.done;simp only [csz,if_true,if_false,Bool.false_eq_true,Int.add_zero];rw [HTZ.out,Hpl.out];exact hst
      ·intro gv ov hV
       refine gz9 ?_;have CQ:=hI (CP.out _ _ Hr5.out.drew 3 rfl)
       with_reducible refine view_move hV rfl (by decide) (fun K hK=>?_)
       go_simp;refine up_enter ((CQ.out).mono ?_);rintro e w6 ⟨rfl,hr6⟩;refine ⟨_,rfl,hK _ _ ?_⟩;clear hK K hc5 hb5;refine gz15 ?_
       with_reducible refine view_move hV rfl (by decide) (fun K hK=>?_)
       go_simp;have Hr8:=hI (hr6.addBlk #[(.int .i64 t0),(.string u0)] 189);clear hr6;refine up_value (hK _ _ ?_);clear hK K
       with_reducible refine view_move hV rfl (by decide) (fun K hK=>?_)
       go_simp;refine up_skip (hK _ _ ?_);clear hK K;generalize hW8:World.alloc _ _=W8;rw [hW8] at Hr8;clear hW8;refine gz9 ?_;refine view_nil ?_;have hq:=(Hr8.out.blk 0 rfl).cell;have hcy:=(Hr8.out.blk 2 rfl).cell;have hfy:=(Hr8.out.blk 2 rfl).frozen;go_wp2;refine gz24 ?_;refine gz2 ?_
       with_reducible refine seq_move (by decide) (fun K hK=>?_)
       go_simp;refine up_skip (hK _ _ ?_);clear hK K;refine gz13 ?_;have hr9:=(Hr8.out.set 2 rfl 5 (.int .i64 (max c.horizon t0))).drew;have Hr9:=hI hr9;clear hr9 hq hcy hfy;generalize hW9:World.drew _=W9;rw [hW9] at Hr9;clear hW9;have hcz:=(Hr9.out.blk 2 rfl).cell;have hfz:=(Hr9.out.blk 2 rfl).frozen;have hfin:=Hr9.out.set 2 rfl 4 (.int .i64 token);have Hfin:=hI ((hfin.drop 0).drop 0);clear hfin
       go_wp2;go_ret;refine ⟨rfl,⟨gc,gl,?_⟩,Hfin.out.kept⟩;have hst:=Hfin.out.star;unfold clL clB Cl.done;simp only [csz,if_true,if_false,Bool.false_eq_true,Int.add_zero];rw [HTZ.out,Hpl.out];exact hst
   | true =>
    have he:Cl.apply c ⟨false,uid,card,cond⟩ token=(true,c.done ⟨false,uid,card,cond⟩ token):=by unfold Cl.apply;rw [hnoD,if_neg (by simp [h1])]
    rw [he];clear he hnoD hth h1 hs;have hwr:IntKind.i64.wrap (c.bytes-(txt.size:Int))=c.bytes-TZ:=by rw [hts,IntKind.wrap_i64];omega
    have hwr2:IntKind.i64.wrap (c.bytes-TZ+(card.size:Int))=c.bytes-TZ+(card.size:Int):=by rw [IntKind.wrap_i64];omega
    clear hts;go_enter Tryz.func66,Tryz.ntmps66;go_wp2_with fail;refine (CG.out).mono ?_;rintro e w1 ⟨rfl,hk1⟩;have hr1:=Hr0.out.pure hk1;have hc1:=(hr1.blk 1 rfl).cell;have hb1:=(hr1.blk 0 rfl).cell;have CL:=hI (fun m=>cl_len (w1.drewN m) _ g c ⟨gc,gl,((hr1.drewN m).drop 0).star⟩);have Hr1:=hI hr1;clear hr1;go_wp2
    go_quiet ((go_at_call 131;refine Calls.quiet_of_same (CL.out _)))
    generalize hW:World.drewN _ _=W;have hr2:=Hr1.out.drewN nq;rw [hW] at hr2;have hc2:=(hr2.blk 1 rfl).cell;have hb2:=(hr2.blk 0 rfl).cell;have hf2:=(hr2.blk 1 rfl).frozen;have hr3:=hr2.set 1 rfl 3 (.int .i64 (c.bytes-TZ));have hr3:Run w F (W.setCell ⟨g,3,none⟩ (.int .i64 (c.bytes-TZ))) [opB w.heap.size ⟨false,uid,card,cond⟩,blkC g 178 #[pV gc,pV gl,.int .i64 c.most,.int .i64 (c.bytes-TZ),.int .i64 c.latest,.int .i64 c.horizon],mrC gc c.cards,riC gl c.lmost c.log]:=hr3
    have Hr3:=hI hr3;clear hr2 hr3 hc1 hb1 hW CL;go_wp2;generalize hW3:World.setCell _ _ _=W3;rw [hW3] at Hr3;have hc3:=(Hr3.out.blk 1 rfl).cell;have hb3:=(Hr3.out.blk 0 rfl).cell;clear hc2 hb2 hf2 hW3;refine gz24 ?_;refine gz2 ?_;clear hc3 hb3;have CD:=hI (Hr3.out.drew.turn1 2 rfl (r:=.bool (!has c.cards (kb uid))) (Q:=mrC gc (putE c.cards uid ⟨token,card⟩)) (fun G hG hp=>r_put _ G gc c.cards uid ⟨token,card⟩ hp (by have:=hok.cm;omega)))
    with_reducible refine seq_move (by decide) (fun K hK=>?_)
    go_simp;refine up_enter ((CD.out).mono ?_);rintro e w4 ⟨rfl,hr4⟩;refine ⟨_,rfl,hK _ _ ?_⟩;clear hK K;have hr4:Run w F w4 [opB w.heap.size ⟨false,uid,card,cond⟩,blkC g 178 #[pV gc,pV gl,.int .i64 c.most,.int .i64 (c.bytes-TZ),.int .i64 c.latest,.int .i64 c.horizon],mrC gc (putE c.cards uid ⟨token,card⟩),riC gl c.lmost c.log]:=hr4;have hc4:=(hr4.blk 1 rfl).cell;have hb4:=(hr4.blk 0 rfl).cell;have hf4:=(hr4.blk 1 rfl).frozen
    have hr5:=hr4.set 1 rfl 3 (.int .i64 (c.bytes-TZ+(card.size:Int)));have hr5:Run w F (w4.setCell ⟨g,3,none⟩ (.int .i64 (c.bytes-TZ+(card.size:Int)))) [opB w.heap.size ⟨false,uid,card,cond⟩,blkC g 178 #[pV gc,pV gl,.int .i64 c.most,.int .i64 (c.bytes-TZ+(card.size:Int)),.int .i64 c.latest,.int .i64 c.horizon],mrC gc (putE c.cards uid ⟨token,card⟩),riC gl c.lmost c.log]:=hr5;have Hr5:=hI hr5
    clear hr4 hr5 CD;refine gz13 ?_;go_wp2;refine gz24 ?_;refine gz2 ?_
    with_reducible refine seq_move (by decide) (fun K hK=>?_)
    go_simp;refine up_skip (hK _ _ ?_);clear hK K;refine gz13 ?_;generalize hW5:World.setCell _ _ _=W5;rw [hW5] at Hr5;have Hr5:=hI Hr5.out.drew;generalize hW6:World.drew _=Wx;rw [hW6] at Hr5;have hc5:=(Hr5.out.blk 1 rfl).cell;have hb5:=(Hr5.out.blk 0 rfl).cell;clear hc4 hb4 hf4 hW5 hW6;go_wp2;obtain ⟨⟨log',old⟩,hpl⟩:∃ p,pushL c.log c.lmost ⟨token,uid⟩=p:=⟨_,rfl⟩;have CP:=(fun (wx:World) (Ps:List Ch) (h:Run w F wx Ps) (i:Nat) (hi:Ps[i]? = some (riC gl c.lmost c.log))=>h.turn1 i hi (fun G hG hp=>ri_push _ G gl c.lmost c.log ⟨token,uid⟩ hp hok.lg.1 hok.lg.2.1 hok.lg.2.2))
    rw [hpl] at CP;have Hpl:=hI hpl;clear hpl;cases old with
    | none =>
     simp only [cgV,Option.isSome] at CP;have CP:=hI CP;refine wp_region_duo 12 8 [12,0,1,2,3,4,5,6,7,8,9,10,11,13,14] [0,1,2,3,4,5,6,7,8,9,10,11,12,13,14] (fun x=>x.cell? ⟨g,1,none⟩=some (pV gl)∧x.cell? ⟨w.heap.size,1,none⟩=some (.string uid)) (fun _=>True) [0,9,13] [1,2,3,4,5,6,7,8,12] [8,12,13] [9,10,11] (by kernel_rfl) (by kernel_rfl) ⟨hc5 1,hb5 1⟩ trivial ?_ ?_
     ·intro gv ov hV
      with_reducible refine view_move hV rfl (by decide) (fun K hK=>?_)
      go_simp;have hr6:=(Hr5.out.addBlk #[.int .i64 0,.string ⟨#[]⟩] 189).drew;have hqs:=And.intro ((hr6.blk 2 rfl).cell 1) ((hr6.blk 1 rfl).cell 1);have CQ:=hI (CP.out _ _ hr6 4 rfl);refine up_value ⟨hqs,hK _ _ ?_⟩;clear hK K hr6 hqs hc5 hb5;refine gz8 ?_
      with_reducible refine view_move hV rfl (by decide) (fun K hK=>?_)
      go_simp;refine up_enter ((CQ.out).mono ?_);rintro e w7 ⟨rfl,hr7⟩;have hqs:=And.intro ((hr7.blk 2 rfl).cell 1) ((hr7.blk 1 rfl).cell 1);refine ⟨_,rfl,hqs,hK _ _ ?_⟩;clear hK K hqs;have hqz:=(hr7.blk 0 rfl).cell;have hqf:=(hr7.blk 0 rfl).frozen;have Hr7:=hI hr7;have hr8:=(hr7.set 0 rfl 0 (.int .i64 0)).set 0 rfl 1 (.string ⟨#[]⟩);have Hr8:=hI hr8;clear hr7 hr8;refine gz9 ?_;refine gz8 ?_
      with_reducible refine view_move hV rfl (by decide) (fun K hK=>?_)
      go_simp;refine up_skip ⟨(And.intro ((Hr8.out.blk 2 rfl).cell 1) ((Hr8.out.blk 1 rfl).cell 1)),hK _ _ ?_⟩;clear hK K;generalize hW8:World.setCell _ _ _=W8;rw [hW8] at Hr8;clear hqz hqf hW8;refine gz9 ?_;refine view_nil ?_;have Hr9:=Hr8;have hcz:=(Hr9.out.blk 2 rfl).cell;have hfz:=(Hr9.out.blk 2 rfl).frozen;have hfin:=Hr9.out.set 2 rfl 4 (.int .i64 token);have Hfin:=hI ((hfin.drop 0).drop 0)
      clear hfin;go_wp2;go_ret;refine ⟨rfl,⟨gc,gl,?_⟩,Hfin.out.kept⟩;have hst:=Hfin.out.star;unfold clL clB Cl.done;simp only [csz,if_true,if_false,Bool.false_eq_true,Int.add_zero];rw [HTZ.out,Hpl.out];exact hst
     ·intro gv ov hV
      refine gz9 ?_;have CQ:=hI (CP.out _ _ Hr5.out.drew 3 rfl)
      with_reducible refine view_move hV rfl (by decide) (fun K hK=>?_)
      go_simp;refine up_enter ((CQ.out).mono ?_);rintro e w6 ⟨rfl,hr6⟩;refine ⟨_,rfl,hK _ _ ?_⟩;clear hK K hc5 hb5;refine gz15 ?_
      with_reducible refine view_move hV rfl (by decide) (fun K hK=>?_)
      go_simp;have Hr8:=hI (hr6.addBlk #[(.int .i64 0),(.string ⟨#[]⟩)] 189);clear hr6;refine up_value (hK _ _ ?_);clear hK K
      with_reducible refine view_move hV rfl (by decide) (fun K hK=>?_)
      go_simp;refine up_skip (hK _ _ ?_);clear hK K;generalize hW8:World.alloc _ _=W8;rw [hW8] at Hr8;clear hW8;refine gz9 ?_;refine view_nil ?_;have Hr9:=Hr8;have hcz:=(Hr9.out.blk 2 rfl).cell;have hfz:=(Hr9.out.blk 2 rfl).frozen;have hfin:=Hr9.out.set 2 rfl 4 (.int .i64 token);have Hfin:=hI ((hfin.drop 0).drop 0);clear hfin;go_wp2;go_ret;refine ⟨rfl,⟨gc,gl,?_⟩,Hfin.out.kept⟩;have hst:=Hfin.out.star
      unfold clL clB Cl.done;simp only [csz,if_true,if_false,Bool.false_eq_true,Int.add_zero];rw [HTZ.out,Hpl.out];exact hst
    | some old =>
     obtain ⟨t0,u0⟩:=old;simp only [cgV,Option.isSome] at CP;have CP:=hI CP;refine wp_region_duo 12 8 [12,0,1,2,3,4,5,6,7,8,9,10,11,13,14] [0,1,2,3,4,5,6,7,8,9,10,11,12,13,14] (fun x=>x.cell? ⟨g,1,none⟩=some (pV gl)∧x.cell? ⟨w.heap.size,1,none⟩=some (.string uid)) (fun _=>True) [0,9,13] [1,2,3,4,5,6,7,8,12] [8,12,13] [9,10,11] (by kernel_rfl) (by kernel_rfl) ⟨hc5 1,hb5 1⟩ trivial ?_ ?_
     ·intro gv ov hV
      with_reducible refine view_move hV rfl (by decide) (fun K hK=>?_)
      go_simp;have hr6:=(Hr5.out.addBlk #[.int .i64 0,.string ⟨#[]⟩] 189).drew;have hqs:=And.intro ((hr6.blk 2 rfl).cell 1) ((hr6.blk 1 rfl).cell 1);have CQ:=hI (CP.out _ _ hr6 4 rfl);refine up_value ⟨hqs,hK _ _ ?_⟩;clear hK K hr6 hqs hc5 hb5;refine gz8 ?_
      with_reducible refine view_move hV rfl (by decide) (fun K hK=>?_)
      go_simp;refine up_enter ((CQ.out).mono ?_);rintro e w7 ⟨rfl,hr7⟩;have hqs:=And.intro ((hr7.blk 2 rfl).cell 1) ((hr7.blk 1 rfl).cell 1);refine ⟨_,rfl,hqs,hK _ _ ?_⟩;clear hK K hqs;have hqz:=(hr7.blk 0 rfl).cell;have hqf:=(hr7.blk 0 rfl).frozen;have Hr7:=hI hr7;have hr8:=(hr7.set 0 rfl 0 (.int .i64 t0)).set 0 rfl 1 (.string u0);have Hr8:=hI hr8;clear hr7 hr8;refine gz9 ?_;refine gz8 ?_
      with_reducible refine view_move hV rfl (by decide) (fun K hK=>?_)
      go_simp;refine up_skip ⟨(And.intro ((Hr8.out.blk 2 rfl).cell 1) ((Hr8.out.blk 1 rfl).cell 1)),hK _ _ ?_⟩;clear hK K;generalize hW8:World.setCell _ _ _=W8;rw [hW8] at Hr8;clear hqz hqf hW8;refine gz9 ?_;refine view_nil ?_;have hq:=(Hr8.out.blk 0 rfl).cell;have hcy:=(Hr8.out.blk 2 rfl).cell;have hfy:=(Hr8.out.blk 2 rfl).frozen;go_wp2;refine gz24 ?_;refine gz2 ?_
      with_reducible refine seq_move (by decide) (fun K hK=>?_)
      go_simp;refine up_skip (hK _ _ ?_);clear hK K;refine gz13 ?_;have hr9:=(Hr8.out.set 2 rfl 5 (.int .i64 (max c.horizon t0))).drew;have Hr9:=hI hr9;clear hr9 hq hcy hfy;generalize hW9:World.drew _=W9;rw [hW9] at Hr9;clear hW9;have hcz:=(Hr9.out.blk 2 rfl).cell;have hfz:=(Hr9.out.blk 2 rfl).frozen;have hfin:=Hr9.out.set 2 rfl 4 (.int .i64 token);have Hfin:=hI ((hfin.drop 0).drop 0);clear hfin
      go_wp2;go_ret;refine ⟨rfl,⟨gc,gl,?_⟩,Hfin.out.kept⟩;have hst:=Hfin.out.star;unfold clL clB Cl.done;simp only [csz,if_true,if_false,Bool.false_eq_true,Int.add_zero];rw [HTZ.out,Hpl.out];exact hst
     ·intro gv ov hV
      refine gz9 ?_;have CQ:=hI (CP.out _ _ Hr5.out.drew 3 rfl)
      with_reducible refine view_move hV rfl (by decide) (fun K hK=>?_)
      go_simp;refine up_enter ((CQ.out).mono ?_);rintro e w6 ⟨rfl,hr6⟩;refine ⟨_,rfl,hK _ _ ?_⟩;clear hK K hc5 hb5;refine gz15 ?_
      with_reducible refine view_move hV rfl (by decide) (fun K hK=>?_)
      go_simp;have Hr8:=hI (hr6.addBlk #[(.int .i64 t0),(.string u0)] 189);clear hr6;refine up_value (hK _ _ ?_);clear hK K
      with_reducible refine view_move hV rfl (by decide) (fun K hK=>?_)
      go_simp;refine up_skip (hK _ _ ?_);clear hK K;generalize hW8:World.alloc _ _=W8;rw [hW8] at Hr8;clear hW8;refine gz9 ?_;refine view_nil ?_;have hq:=(Hr8.out.blk 0 rfl).cell;have hcy:=(Hr8.out.blk 2 rfl).cell;have hfy:=(Hr8.out.blk 2 rfl).frozen;go_wp2;refine gz24 ?_;refine gz2 ?_
      with_reducible refine seq_move (by decide) (fun K hK=>?_)
      go_simp;refine up_skip (hK _ _ ?_);clear hK K;refine gz13 ?_;have hr9:=(Hr8.out.set 2 rfl 5 (.int .i64 (max c.horizon t0))).drew;have Hr9:=hI hr9;clear hr9 hq hcy hfy;generalize hW9:World.drew _=W9;rw [hW9] at Hr9;clear hW9;have hcz:=(Hr9.out.blk 2 rfl).cell;have hfz:=(Hr9.out.blk 2 rfl).frozen;have hfin:=Hr9.out.set 2 rfl 4 (.int .i64 token);have Hfin:=hI ((hfin.drop 0).drop 0);clear hfin
      go_wp2;go_ret;refine ⟨rfl,⟨gc,gl,?_⟩,Hfin.out.kept⟩;have hst:=Hfin.out.star;unfold clL clB Cl.done;simp only [csz,if_true,if_false,Bool.false_eq_true,Int.add_zero];rw [HTZ.out,Hpl.out];exact hst
end
section
open Go.RowKit
theorem OpR.cells_len (o:OpR):o.cells.length=5:=rfl
theorem op_at {w:World} {F:Nat→Prop} {b o n:Nat} {l:List OpR} (h:Sl w F 5 (some ⟨b,o,none⟩) n (l.flatMap OpR.cells)) {i:Nat} {e:OpR} (he:l[i]? = some e) :
  w.cell? ⟨b,o+i*5,none⟩=some (.bool e.del)∧w.cell? ⟨b,o+i*5+1,none⟩=some (.string e.uid)∧w.cell? ⟨b,o+i*5+2,none⟩=some (.string e.card)∧w.cell? ⟨b,o+i*5+3,none⟩=some (.int .i64 e.cond.kind)∧w.cell? ⟨b,o+i*5+4,none⟩=some (.int .i64 e.cond.version):=by
 have hl:l.length=n:=by have:=h.1;rw [fm_length _ 5 OpR.cells_len] at this;omega
 have hn:0<n:=by have:=(List.getElem?_eq_some_iff.1 he).1;omega
 exact ⟨sl_at OpR.cells_len h hn he 0 (by omega),sl_at OpR.cells_len h hn he 1 (by omega),sl_at OpR.cells_len h hn he 2 (by omega),sl_at OpR.cells_len h hn he 3 (by omega),sl_at OpR.cells_len h hn he 4 (by omega)⟩
theorem op_indexg (p:OpR→Bool) (f:Nat) (cap:Value) (hcf:∀ (args:Array Value) (w:World),(callFunc f args).run Tryz.prog w = .ok (.enter f args) w) (K:World→Prop) (hK:∀ w w',K w→Pure w w'→K w') (key:∀ (y:OpR) w,K w→Calls Tryz.prog f #[.agg y.cells.toArray,cap] w fun e w'=>e = .returned (.bool (p y))∧Pure w w')
  (l:List OpR) (A:Option Addr) (n c:Nat) (w:World) (F:Nat→Prop) (hs:Sl w F 5 A n (l.flatMap OpR.cells)) (hn:n≤1000000) (hw:K w) :
  Calls Tryz.prog 205 #[.slice A n c,.func (.func f) #[] #[cap]] w fun e w'=>e = .returned (.int .i64 (idx p l))∧Pure w w':=by
 have hl:l.length=n:=by have:=hs.1;rw [fm_length _ 5 OpR.cells_len] at this;omega
 have Hl:=hI hl;have Hs:=hI hs;have HK:=hI hK;have Hw:=hI hw;have Key:=hI key;clear hl hs hK key hw;go_enter Tryz.func205,Tryz.ntmps205;go_wp2
 go_loopw [8] (fun i wr=>∃ k:Nat,i = .int .i64 k∧k≤n∧Hid (∀ (j:Nat) (y:OpR),j<k→l[j]? = some y→p y=false)∧Pure w wr) (fun i _=>n-(intOf i).toNat)
 case atStart=>exact ⟨0,rfl,Nat.zero_le _,fun j y h=>by omega,Kept.refl _ _⟩
 case round =>
  obtain ⟨k,rfl,hk,hj,hp⟩:=hrel
  by_cases hkn:k<n
  ·obtain ⟨y,hy⟩:∃ y,l[k]? = some y:=⟨_,List.getElem?_eq_getElem (by have:=Hl.out;omega)⟩
   have hsw:=Hs.out.kept hp (fun _ _ _ h=>h);obtain ⟨b,o,rfl,_,_,_⟩:=hsw.2 (by omega)
   have hki:(k:Int)<(n:Int):=by omega
   have C:=hI (Key.out y wr (HK.out _ _ Hw.out hp));have Hy:=hI hy;obtain ⟨hc0,hc1,hc2,hc3,hc4⟩:=op_at hsw hy;clear hy hsw;cases hxy:p y with
   | true =>
    have hr:=idx_some Hy.out hxy hj.out;have Hr:=hI hr;rw [hxy] at C;clear hr hxy
    skip
    go_wp2_with fail
    refine (C.out).mono ?_;rintro e w1 ⟨rfl,hk1⟩;go_wp2;go_ret;exact ⟨by rw [Hr.out];rfl,hp.same hk1⟩
   | false =>
    have Hxy:=hI hxy;rw [hxy] at C;clear hxy
    skip
    go_wp2_with fail
    refine (C.out).mono ?_;rintro e w1 ⟨rfl,hk1⟩;go_wp2
    go_roundw
    case measure=>simp [intOf];omega
    case rel=>exact ⟨k+1,by first|rfl|go_num,by omega,fun j z h hz=>by
     by_cases hjk:j=k
     ·subst hjk;rw [Hy.out] at hz;injection hz with hz;subst hz;exact Hxy.out
     ·exact hj.out j z (by omega) hz,hp.same hk1⟩
  ·obtain rfl:k=n:=by omega
   have hr:=idx_none (p:=p) (l:=l) (fun j y hy=>hj.out j y (by have:=(List.getElem?_eq_some_iff.1 hy).1;have:=Hl.out;omega) hy)
   have Hr:=hI hr;clear hr;go_wp2;go_ret;exact ⟨by rw [Hr.out];rfl,hp⟩
theorem op_containsg (p:OpR→Bool) (f:Nat) (cap:Value) (hcf:∀ (args:Array Value) (w:World),(callFunc f args).run Tryz.prog w = .ok (.enter f args) w) (K:World→Prop) (hK:∀ w w',K w→Pure w w'→K w') (key:∀ (y:OpR) w,K w→Calls Tryz.prog f #[.agg y.cells.toArray,cap] w fun e w'=>e = .returned (.bool (p y))∧Pure w w')
  (l:List OpR) (A:Option Addr) (n c:Nat) (w:World) (F:Nat→Prop) (hs:Sl w F 5 A n (l.flatMap OpR.cells)) (hn:n≤1000000) (hw:K w) :
  Calls Tryz.prog 168 #[.slice A n c,.func (.func f) #[] #[cap]] w fun e w'=>e = .returned (.bool (l.any p))∧Pure w w':=by
 have C:=hI (op_indexg p f cap hcf K hK key l A n c w F hs hn hw);have hr:=idx_any p l;have Hr:=hI hr;clear hs hr;go_enter Tryz.func168,Tryz.ntmps168;go_wp2_with fail;refine (C.out).mono ?_;rintro e w1 ⟨rfl,hk1⟩;go_wp2;go_ret;exact ⟨by rw [←Hr.out];rfl,hk1⟩
theorem ck1_key (uid:ByteArray) (bx:Nat) (y:OpR) (w:World) (h:w.cell? ⟨bx,1,none⟩=some (.string uid)∧bx<w.heap.size) :
  Calls Tryz.prog 169 #[.agg y.cells.toArray,.pointer (some ⟨bx,0,none⟩)] w fun e w'=>e = .returned (.bool (decide (y.uid=uid)))∧Pure w w':=by
 obtain ⟨hc,hb⟩:=h;have hB:=Blk.new w 58 #[.bool y.del,.string y.uid,.string y.card,.int .i64 y.cond.kind,.int .i64 y.cond.version];have hk:Pure w (w.alloc (.cells #[.bool y.del,.string y.uid,.string y.card,.int .i64 y.cond.kind,.int .i64 y.cond.version] 58)):=(Kept.refl _ _).alloc _;have hcell:=hB.cell;have hc2:(w.alloc (.cells #[.bool y.del,.string y.uid,.string y.card,.int .i64 y.cond.kind,.int .i64 y.cond.version] 58)).cell? ⟨bx,1,none⟩=some (.string uid):=(World.cell?_of_block (a:=⟨bx,1,none⟩) (hk.block bx hb (fun h=>h))).trans hc
 have hv:y.cells.toArray=#[.bool y.del,.string y.uid,.string y.card,.int .i64 y.cond.kind,.int .i64 y.cond.version]:=rfl;rw [hv,←str_same];clear hc hB hv;go_enter Tryz.func169,Tryz.ntmps169;go_wp2;go_ret;exact ⟨rfl,hk⟩
theorem ck1_call (args:Array Value) (w:World):(callFunc 169 args).run Tryz.prog w = .ok (.enter 169 args) w:=by go_simp
theorem chk1_eq {c:Cl} {room many grow m' g':Int} {seen:List OpR} {o:OpR} {V:Option Crd} (hS:seen.any (fun p=>decide (p.uid=o.uid))=false) (hV:c.get o.uid=V) (hH:o.cond.holds V.isSome (tvr V)=true) (hD:¬(o.del=true∧V.isSome=false)) (hM:stepMany c o many=m') (hG:stepGrow c o grow=g') :
  chk1 c room seen many grow o=if c.most<m'∨room<g' then 7 else 0:=by
 unfold chk1;rw [hV,if_neg (by rw [hS];simp),if_neg (by rw [hH];simp),if_neg hD,hM,hG]
def trip (r:Int×Int×Int):Value:=.tuple #[.int .i64 r.1,.int .i64 r.2.1,.int .i64 r.2.2]
theorem chk_step {c:Cl} {room many grow:Int} {ops:List OpR} {k:Nat} {o:OpR} (ho:ops[k]? = some o) :
  chkL c room (ops.take k) many grow (ops.drop k)=if chk1 c room (ops.take k) many grow o≠0 then ((k:Int),0,chk1 c room (ops.take k) many grow o) else chkL c room (ops.take (k+1)) (stepMany c o many) (stepGrow c o grow) (ops.drop (k+1)):=by
 obtain ⟨hk,hv⟩:=List.getElem?_eq_some_iff.1 ho;have hd:ops.drop k=o::ops.drop (k+1):=by rw [←hv];exact List.drop_eq_getElem_cons hk
 rw [hd,chkL,List.length_take,Nat.min_eq_left (by omega),List.take_add_one,ho]
 rfl
theorem cl_check (w:World) (F G:Nat→Prop) (g:Nat) (c:Cl) (ops:List OpR) (A:Option Addr) (n cp:Nat) (room:Int) (h:ClM w F g c) (hok:c.Ok) (hs:Sl w G 5 A n (ops.flatMap OpR.cells)) (hn:n≤1000) (hops:∀ o∈ops,o.card.size≤1000000) (hnc:n≤cp) :
  Reads 122 #[pV g,.slice A n cp,.int .i64 room] w (trip (c.check ops room)):=by
 have hl:ops.length=n:=by have:=hs.1;rw [fm_length _ 5 OpR.cells_len] at this;omega
 have CL:=hI (cl_len w F g c h);obtain ⟨RES,hRES⟩:∃ r,c.check ops room=r:=⟨_,rfl⟩;have hR0:chkL c room (ops.take 0) c.cards.length 0 (ops.drop 0)=RES:=hRES;rw [hRES];have hcm:=hok.cm;have H:=hI h;have Hs:=hI hs;have Hl:=hI hl;have HR0:=hI hR0;have Hops:=hI hops;have Hok:=hI hok;unfold Reads trip;clear h hs hl hRES hR0 hops hok;obtain ⟨cl,hcl⟩:∃ x,c.cards.length=x:=⟨_,rfl⟩
 rw [hcl] at CL HR0 hcm;clear hcl;go_enter Tryz.func122,Tryz.ntmps122;go_wp2_with fail;refine (CL.out).mono ?_;rintro e w0 ⟨rfl,e0⟩;obtain rfl:=e0.symm;go_wp2
 go_loopw [7,9,19] (fun vg vm vi wr=>∃ (k:Nat) (many grow:Int),vi = .int .i64 k∧k≤n∧vm = .int .i64 many∧vg = .int .i64 grow∧((cl:Int)-k≤many∧many≤cl+k)∧(-(1000000*(k:Int))≤grow∧grow≤1000000*(k:Int))∧Hid (chkL c room (ops.take k) many grow (ops.drop k)=RES)∧Pure w wr) (fun _ _ i _=>n-(intOf i).toNat)
 case atStart=>exact ⟨0,cl,0,rfl,Nat.zero_le _,rfl,rfl,by omega,by omega,HR0,Kept.refl _ _⟩
 case round =>
  obtain ⟨k,many,grow,rfl,hkn,rfl,rfl,hmb,hgb,hres,hp⟩:=hrel
  by_cases hlt:k<n
  ·obtain ⟨o,ho⟩:∃ o,ops[k]? = some o:=⟨_,List.getElem?_eq_getElem (by have:=Hl.out;omega)⟩
   have hcard:=Hops.out o (List.mem_of_getElem? ho);have hstep:=chk_step (c:=c) (room:=room) (many:=many) (grow:=grow) ho;rw [hres.out] at hstep;have HS:=hI hstep;have hsw:=Hs.out.kept hp (fun _ _ _ h=>h);obtain ⟨b,off,rfl,_,_,_⟩:=hsw.2 (by omega)
   obtain ⟨hc0,hc1,hc2,hc3,hc4⟩:=op_at hsw ho;have hki:(k:Int)<(n:Int):=by omega
   have hkn2:(k:Int)≤(cp:Int):=by omega
   have hsk:=(hsw.pre k hkn);rw [←fm_take OpR.cells_len] at hsk;obtain ⟨del,uid,card,cond⟩:=o;simp only at hc0 hc1 hc2 hc3 hc4 hcard;have htz:=get_tsz Hok.out uid;have hB:=Blk.new wr 58 #[.bool del,.string uid,.string card,.int .i64 cond.kind,.int .i64 cond.version];have hpa:Pure wr (wr.alloc (.cells #[.bool del,.string uid,.string card,.int .i64 cond.kind,.int .i64 cond.version] 58)):=(Kept.refl _ _).alloc _
   have C1:=op_containsg (fun p=>decide (p.uid=uid)) 169 (.pointer (some ⟨wr.heap.size,0,none⟩)) ck1_call (fun w'=>w'.cell? ⟨wr.heap.size,1,none⟩=some (.string uid)∧wr.heap.size<w'.heap.size)
    (fun w1 w2 h1 h2=>⟨(World.cell?_of_block (a:=⟨wr.heap.size,1,none⟩) (h2.block _ h1.2 (fun h=>h))).trans h1.1,Nat.lt_of_lt_of_le h1.2 h2.size⟩) (fun y w' h=>ck1_key uid wr.heap.size y w' h)
    (ops.take k) (some ⟨b,off,none⟩) k cp _ _ (hsk.kept hpa (fun _ _ _ h=>h)) (by omega) ⟨hB.cell 1,hB.lt⟩
   have HB:=hI hB;have hpr:=hp.same hpa;have CG:=(fun (wx:World) (hx:Pure w wx)=>cl_get wx F g c uid ((clC g c).kept H.out hx (fun _ _ _ h=>h)));unfold Reads at CG;obtain ⟨TZ,hTZ⟩:∃ z,tsz (c.get uid)=z:=⟨_,rfl⟩;have hts:((ttx (c.get uid)).size:Int)=TZ:=by rw [←hTZ,tsz_ttx]
   rw [hTZ] at htz;have HTZ:=hI hTZ;obtain ⟨V,hV⟩:∃ V,c.get uid=V:=⟨_,rfl⟩;rw [hV] at CG hts;have HV:=hI hV;obtain ⟨txt,htx⟩:∃ t,ttx V=t:=⟨_,rfl⟩;obtain ⟨vr,hvr⟩:∃ t,tvr V=t:=⟨_,rfl⟩;obtain ⟨th,hth⟩:∃ t,V.isSome=t:=⟨_,rfl⟩;obtain ⟨hd,hhd⟩:∃ t,cond.holds th vr=t:=⟨_,rfl⟩;have CH:=(fun (wx:World)=>et_holds cond th vr wx);unfold Cn.val at CH;rw [hhd] at CH;have CH:=hI CH;have HH0:Hid (cond.holds V.isSome (tvr V)=hd):=hI (by rw [hth,hvr];exact hhd)
   rw [htx,hvr,hth] at CG;rw [htx] at hts;have Hth:=hI hth;have CG:=hI CG;have Hts:=hI hts;have HB1:=hI hmb;have HB2:=hI hgb;have Htz:=hI htz;clear hTZ hV htx hvr hth hhd hts hmb hgb htz;have Hpr:=hI hpr;have hbc:=hB.cell;clear hsk hsw ho hstep hB hres hpr;obtain ⟨S,hS⟩:∃ S,(ops.take k).any (fun p=>decide (p.uid=uid))=S:=⟨_,rfl⟩;rw [hS] at C1;have C1:=hI C1;have HSS:=hI hS
   clear hS;go_wp2_with fail;refine C1.out.mono ?_;rintro e w1 ⟨rfl,hk1⟩;have hp1:=Hpr.out.same hk1;have hbc1:=(HB.out.kept hk1 (fun h=>h)).cell;clear hbc;cases S with
   | true =>
    have hp9:=hp1;have hres:=HS.out;rw [show chk1 c room (ops.take k) many grow ⟨del,uid,card,cond⟩=11 from by unfold chk1;simp only;rw [if_pos HSS.out],if_pos (by decide)] at hres
    have Hres:=hI hres;clear hres;go_wp2
    go_ret3
    exact ⟨by rw [Hres.out];rfl,hp9⟩
   | false =>
    go_wp2_with fail
    refine (CG.out w1 hp1).mono ?_;rintro e w2 ⟨rfl,hk2⟩;have hp2:=hp1.same hk2;have hbc2:=((HB.out.kept hk1 (fun h=>h)).kept hk2 (fun h=>h)).cell;have HBB:=hI ((HB.out.kept hk1 (fun h=>h)).kept hk2 (fun h=>h));clear hbc1 hk2;go_wp2_with fail;refine (CH.out _).mono ?_;rintro e w3 ⟨rfl,hk3⟩;have hp9:=hp2.same hk3;have hbc3:=(HBB.out.kept hk3 (fun h=>h)).cell;clear hbc2 hk3 hp1 hp2 CH;obtain ⟨gc,gl,hst⟩:=(clC g c).kept H.out hp9 (fun _ _ _ h=>h)
    have hcol:w3.cell? ⟨g,2,none⟩=some (.int .i64 c.most):=((Run.start hst).blk 0 rfl).cell 2;clear hst;have HH:=HH0;cases hd with
    | false =>
     clear CG C1;have hres:=HS.out;rw [show chk1 c room (ops.take k) many grow ⟨del,uid,card,cond⟩=6 from by unfold chk1;rw [HV.out,if_neg (by rw [HSS.out];simp),if_pos HH.out],if_pos (by decide)] at hres
     have Hres:=hI hres;clear hres;go_wp2
     go_ret3
     exact ⟨by rw [Hres.out];rfl,hp9⟩
    | true =>
     have hwg1:IntKind.i64.wrap (grow-(txt.size:Int))=grow-TZ:=by have:=Hts.out;have:=Htz.out;have:=HB2.out;rw [IntKind.wrap_i64];omega
     cases th with
     | false =>
      cases del with
      | true =>
       clear CG C1;have hres:=HS.out;rw [show chk1 c room (ops.take k) many grow ⟨true,uid,card,cond⟩=4 from by unfold chk1;rw [HV.out,if_neg (by rw [HSS.out];simp),if_neg (by rw [HH.out];simp),if_pos ⟨rfl,Hth.out⟩],if_pos (by decide)] at hres
       have Hres:=hI hres;clear hres;go_wp2
       go_ret3
       exact ⟨by rw [Hres.out];rfl,hp9⟩
      | false =>
       obtain ⟨m',hm'⟩:∃ x,many+1=x:=⟨_,rfl⟩;obtain ⟨g',hg'⟩:∃ x,grow+(card.size:Int)=x:=⟨_,rfl⟩;have HM2:=hI hm';have HG2:=hI hg';have hwm:IntKind.i64.wrap (many+1)=m':=by have:=HB1.out;rw [IntKind.wrap_i64];omega
       have hwg:IntKind.i64.wrap (grow+(card.size:Int))=g':=by have:=HB2.out;rw [IntKind.wrap_i64];omega
       have hTZ0:TZ=0:=by
        have h1:=HTZ.out;rw [HV.out] at h1;cases V with
        | none=>exact h1.symm
        | some v=>have:=Hth.out;simp at this
       have HM:Hid (stepMany c ⟨false,uid,card,cond⟩ many=m'):=hI (by unfold stepMany;rw [HV.out,Hth.out];simpa using hm')
       have HG:Hid (stepGrow c ⟨false,uid,card,cond⟩ grow=g'):=hI (by unfold stepGrow csz;rw [HTZ.out];simp;omega)
       clear hm' hg' hTZ0 hwg1
       by_cases t1:c.most<m'
       ·have t1':(c.most<m')=True:=by simpa using t1
        clear CG C1;have hres:=HS.out;rw [show chk1 c room (ops.take k) many grow ⟨false,uid,card,cond⟩=7 from by rw [chk1_eq HSS.out HV.out HH.out (by rw [Hth.out];simp) HM.out HG.out,if_pos (.inl t1)],if_pos (by decide)] at hres
        have Hres:=hI hres;clear hres;go_wp2
        go_ret3
        exact ⟨by rw [Hres.out];rfl,hp9⟩
       ·have t1':(c.most<m')=False:=by simpa using t1
        by_cases t2:room<g'
        ·have t2':(room<g')=True:=by simpa using t2
         clear CG C1;have hres:=HS.out;rw [show chk1 c room (ops.take k) many grow ⟨false,uid,card,cond⟩=7 from by rw [chk1_eq HSS.out HV.out HH.out (by rw [Hth.out];simp) HM.out HG.out,if_pos (.inr t2)],if_pos (by decide)] at hres
         have Hres:=hI hres;clear hres;go_wp2
         go_ret3
         exact ⟨by rw [Hres.out];rfl,hp9⟩
        ·have t2':(room<g')=False:=by simpa using t2
         have hres:=HS.out;rw [show chk1 c room (ops.take k) many grow ⟨false,uid,card,cond⟩=0 from by rw [chk1_eq HSS.out HV.out HH.out (by rw [Hth.out];simp) HM.out HG.out,if_neg (fun h=>h.elim t1 t2)],if_neg (by decide),HM.out,HG.out] at hres
         have Hres:=hI hres.symm;clear hres CG C1 t1 t2;go_wp2
         go_roundw
         case measure=>simp [intOf];omega
         case rel=>exact ⟨k+1,m',g',by first|rfl|go_num,by omega,rfl,rfl,by have:=HB1.out;have:=HM2.out;omega,by have:=HB2.out;have:=HG2.out;omega,Hres,hp9⟩
     | true =>
      cases del with
      | true =>
       obtain ⟨m',hm'⟩:∃ x,many-1=x:=⟨_,rfl⟩;obtain ⟨g',hg'⟩:∃ x,grow-TZ=x:=⟨_,rfl⟩;have HM2:=hI hm';have HG2:=hI (And.intro hg' Htz.out);have hwm:IntKind.i64.wrap (many-1)=m':=by have:=HB1.out;rw [IntKind.wrap_i64];omega
       rw [hg'] at hwg1;have HM:Hid (stepMany c ⟨true,uid,card,cond⟩ many=m'):=hI (by unfold stepMany;rw [HV.out,Hth.out];simpa using hm')
       have HG:Hid (stepGrow c ⟨true,uid,card,cond⟩ grow=g'):=hI (by unfold stepGrow csz;rw [HTZ.out];simpa using hg')
       clear hm' hg'
       by_cases t1:c.most<m'
       ·have t1':(c.most<m')=True:=by simpa using t1
        clear CG C1;have hres:=HS.out;rw [show chk1 c room (ops.take k) many grow ⟨true,uid,card,cond⟩=7 from by rw [chk1_eq HSS.out HV.out HH.out (by rw [Hth.out];simp) HM.out HG.out,if_pos (.inl t1)],if_pos (by decide)] at hres
        have Hres:=hI hres;clear hres;go_wp2
        go_ret3
        exact ⟨by rw [Hres.out];rfl,hp9⟩
       ·have t1':(c.most<m')=False:=by simpa using t1
        by_cases t2:room<g'
        ·have t2':(room<g')=True:=by simpa using t2
         clear CG C1;have hres:=HS.out;rw [show chk1 c room (ops.take k) many grow ⟨true,uid,card,cond⟩=7 from by rw [chk1_eq HSS.out HV.out HH.out (by rw [Hth.out];simp) HM.out HG.out,if_pos (.inr t2)],if_pos (by decide)] at hres
         have Hres:=hI hres;clear hres;go_wp2
         go_ret3
         exact ⟨by rw [Hres.out];rfl,hp9⟩
        ·have t2':(room<g')=False:=by simpa using t2
         have hres:=HS.out;rw [show chk1 c room (ops.take k) many grow ⟨true,uid,card,cond⟩=0 from by rw [chk1_eq HSS.out HV.out HH.out (by rw [Hth.out];simp) HM.out HG.out,if_neg (fun h=>h.elim t1 t2)],if_neg (by decide),HM.out,HG.out] at hres
         have Hres:=hI hres.symm;clear hres CG C1 t1 t2;go_wp2
         go_roundw
         case measure=>simp [intOf];omega
         case rel=>exact ⟨k+1,m',g',by first|rfl|go_num,by omega,rfl,rfl,by have:=HB1.out;have:=HM2.out;omega,by have:=HB2.out;have:=HG2.out;omega,Hres,hp9⟩
      | false =>
       obtain ⟨m1,hm1⟩:∃ x,many-1=x:=⟨_,rfl⟩;obtain ⟨g1,hg1⟩:∃ x,grow-TZ=x:=⟨_,rfl⟩;obtain ⟨m',hm'⟩:∃ x,m1+1=x:=⟨_,rfl⟩;obtain ⟨g',hg'⟩:∃ x,g1+(card.size:Int)=x:=⟨_,rfl⟩;have HM2:=hI (And.intro hm1 hm');have HG2:=hI (And.intro hg1 (And.intro hg' Htz.out));have hwm:IntKind.i64.wrap (many-1)=m1:=by have:=HB1.out;rw [IntKind.wrap_i64];omega
       have hwm2:IntKind.i64.wrap (m1+1)=m':=by have:=HB1.out;rw [IntKind.wrap_i64];omega
       have hwg2:IntKind.i64.wrap (g1+(card.size:Int))=g':=by have:=HB2.out;have:=Htz.out;rw [IntKind.wrap_i64];omega
       rw [hg1] at hwg1;have HM:Hid (stepMany c ⟨false,uid,card,cond⟩ many=m'):=hI (by unfold stepMany;rw [HV.out,Hth.out];simp;omega)
       have HG:Hid (stepGrow c ⟨false,uid,card,cond⟩ grow=g'):=hI (by unfold stepGrow csz;rw [HTZ.out];simp;omega)
       clear hm1 hg1 hm' hg'
       by_cases t1:c.most<m'
       ·have t1':(c.most<m')=True:=by simpa using t1
        clear CG C1;have hres:=HS.out;rw [show chk1 c room (ops.take k) many grow ⟨false,uid,card,cond⟩=7 from by rw [chk1_eq HSS.out HV.out HH.out (by rw [Hth.out];simp) HM.out HG.out,if_pos (.inl t1)],if_pos (by decide)] at hres
        have Hres:=hI hres;clear hres;go_wp2
        go_ret3
        exact ⟨by rw [Hres.out];rfl,hp9⟩
       ·have t1':(c.most<m')=False:=by simpa using t1
        by_cases t2:room<g'
        ·have t2':(room<g')=True:=by simpa using t2
         clear CG C1;have hres:=HS.out;rw [show chk1 c room (ops.take k) many grow ⟨false,uid,card,cond⟩=7 from by rw [chk1_eq HSS.out HV.out HH.out (by rw [Hth.out];simp) HM.out HG.out,if_pos (.inr t2)],if_pos (by decide)] at hres
         have Hres:=hI hres;clear hres;go_wp2
         go_ret3
         exact ⟨by rw [Hres.out];rfl,hp9⟩
        ·have t2':(room<g')=False:=by simpa using t2
         have hres:=HS.out;rw [show chk1 c room (ops.take k) many grow ⟨false,uid,card,cond⟩=0 from by rw [chk1_eq HSS.out HV.out HH.out (by rw [Hth.out];simp) HM.out HG.out,if_neg (fun h=>h.elim t1 t2)],if_neg (by decide),HM.out,HG.out] at hres
         have Hres:=hI hres.symm;clear hres CG C1 t1 t2;go_wp2
         go_roundw
         case measure=>simp [intOf];omega
         case rel=>exact ⟨k+1,m',g',by first|rfl|go_num,by omega,rfl,rfl,by have:=HB1.out;have:=HM2.out;omega,by have:=HB2.out;have:=HG2.out;omega,Hres,hp9⟩
  ·obtain rfl:k=n:=by omega
   have hres2:=hres.out;rw [List.drop_eq_nil_of_le (by have:=Hl.out;omega),chkL] at hres2
   have Hres2:=hI hres2;clear hres2 hres;go_wp2
   go_ret3
   exact ⟨by rw [←Hres2.out];rfl,hp⟩
end
section
open Go.RowKit
attribute [local go_sem] Oper.semAt_some
theorem r_under1 (n:Nat) (hn:1≤n) (l Bm Bp g:Nat) (S F:Nat→Prop) (es:List (En Crd)) (t:ByteArray) (J Jx:List (En Crd)→World→Prop) (W:World) (hJ:AbidesFrom W.heap.size J)
  (hY:∀ pre x W,J pre W→pre.length<(underE es (kb t)).length→YieldAt Fence.wide (n-1) Tryz.prog l (encE crV x) W fun e W' =>
   (e = .returned (.bool true)∧J (pre++[x]) W'∧Kept S W W')∨(e = .returned (.bool false)∧Jx (pre++[x]) W'))
  (hm:Blk W Bm 175 #[.pointer (some ⟨g,0,none⟩)]) (hmS:¬S Bm) (hp:Blk W Bp 9 #[.string t]) (hpS:¬S Bp) (h:Mr W F g es) (hd:∀ b,b<W.heap.size→F b→¬S b) (h0:J [] W) :
  CallsIn Fence.wide n Tryz.prog 261 #[.func (.yield l) #[] #[],.pointer (some ⟨Bm,0,none⟩),.pointer (some ⟨Bp,0,none⟩)] W fun e W'=>(∃ v,e = .returned v) ∧
   ((∃ ys,ys=underE es (kb t)∧J ys W')∨(∃ pre,pre <+: underE es (kb t)∧Jx pre W')):=by
 have C:=hI (r_find W F g es t h);have hc1:=hm.cell;have hc2:=hp.cell;have H:=hI h;have hl1:=h.2.2.1;have Hm:=hI hm;have Hp:=hI hp;have hle:=low_le es (kb t);obtain ⟨a,ha⟩:∃ a,low es (kb t)=a:=⟨_,rfl⟩;rw [ha] at C hle;obtain ⟨us,hus⟩:∃ us,es.drop a=us:=⟨_,rfl⟩;have hul:us.length=es.length-a:=by rw [←hus,List.length_drop]
 have hun:underE es (kb t)=us.takeWhile (fun e=>Lib.hasPrefix (kb e.1) (kb t)):=by unfold underE;rw [ha,hus]
 rw [hun] at hY ⊢;have HY:=hI hY;have Hus:=hI hus;clear h hm hp ha hun hus hY;refine callsIn_wide.2 ?_;go_enter Tryz.func261,Tryz.ntmps261;go_wp2_with fail;refine (C.out).mono ?_;rintro e w1 ⟨rfl,hk1⟩;have hJ1:J [] w1:=abides_pure hJ h0 hk1;have Hk1:=hI hk1;go_wp2
 go_loopw [4] (fun i wr=>∃ m:Nat,i = .int .i64 ((a+m:Nat):Int)∧m≤us.length∧Hid ((∀ j e,j<m→us[j]? = some e→Lib.hasPrefix (kb e.1) (kb t)=true)∧J (us.take m) wr∧Kept S W wr))
  (fun i _=>es.length-(intOf i).toNat)
 case atStart=>exact ⟨0,by simp,Nat.zero_le _,⟨fun j e h=>by omega,hJ1,Hk1.out.mono (fun _ _ h=>h.elim)⟩⟩
 case round =>
  obtain ⟨m,rfl,hm,hr⟩:=hrel;have Hr:=hr;obtain ⟨hpre,hJm,hkm⟩:=hr.out;have hmb:=Hm.out.kept hkm hmS;have hpb:=Hp.out.kept hkm hpS;obtain ⟨h0',h1',h2',A,c,hb,ho⟩:=H.out.kept hkm hd;have hc1:=hmb.cell;have hc2:=hpb.cell;have hc3:=hb.cell
  by_cases hlt:m<us.length
  ·obtain ⟨x,hx⟩:∃ x,us[m]? = some x:=⟨_,List.getElem?_eq_getElem hlt⟩
   have hx':es[a+m]? = some x:=by rw [←Hus.out,List.getElem?_drop] at hx;exact hx
   obtain ⟨gb,go,rfl,_,_,_⟩:=ho.sl.2 (by omega)
   obtain ⟨hc4,hc5,hc6⟩:=cr_at ho.sl hx';have hi:((a+m:Nat):Int)<(es.length:Int):=by omega
   have hpa:=fun w=>Any.strings_HasPrefix Tryz.lays99 x.1 t w;have Hpa:=hI hpa;obtain ⟨V,hV⟩:∃ V,Lib.hasPrefix (kb x.1) (kb t)=V:=⟨_,rfl⟩;have HV:=hI hV;have Hx:=hI hx;clear hmb hpb hb ho h1' hpa hpre hJm hkm hx hx';obtain ⟨q,hq⟩:∃ q,a+m=q:=⟨_,rfl⟩;rw [hq] at hi hc4 hc5 hc6 ⊢;go_wp2
   go_quiet ((go_at_call 179;refine Calls.quiet_of_same (Hpa.out _)))
   rw [show Lib.hasPrefix x.1.data.toList t.data.toList=V from hV];cases V with
   | true =>
    go_wp2;have hpr:us.take m <+: us.takeWhile (fun e=>Lib.hasPrefix (kb e.1) (kb t)):=take_prefix us m Hr.out.1;have hpr1:us.take (m+1) <+: us.takeWhile (fun e=>Lib.hasPrefix (kb e.1) (kb t)):=take_prefix us (m+1) (fun j e hj he=>by
     by_cases hjm:j<m
     ·exact Hr.out.1 j e hjm he
     ·obtain rfl:j=m:=by omega
      have:=Hx.out;rw [he] at this;injection this with this;subst this;exact HV.out)
    have hJ2:J (us.take m) (wr.drewN (nq+1)):=abides_pure hJ Hr.out.2.1 ((Kept.refl _ _).drewN (nq+1));have hlp:(us.take m).length<(us.takeWhile (fun e=>Lib.hasPrefix (kb e.1) (kb t))).length:=by
     have:=hpr1.length_le;rw [List.length_take] at this ⊢;omega
    have htk:us.take m++[x]=us.take (m+1):=by rw [List.take_add_one,Hx.out];rfl
    obtain ⟨fn,tmps,assign,body,hy,hR⟩:=HY.out _ x _ hJ2 hlp;rw [htk] at hR;have hR2:RoundIn Fence.wide (n-1) Tryz.prog l fn tmps assign body (wr.drewN (nq+1)) fun e W'=>∃ b,e = .returned (.bool b)∧Hid ((b=true∧J (us.take (m+1)) W'∧Kept S (wr.drewN (nq+1)) W')∨(b=false∧Jx (us.take (m+1)) W')):=hR.mono (fun e W' h=>by
     rcases h with ⟨h1,h2,h3⟩|⟨h1,h2⟩
     ·exact ⟨true,h1,hI (.inl ⟨rfl,h2,h3⟩)⟩
     ·exact ⟨false,h1,hI (.inr ⟨rfl,h2⟩)⟩)
    have HR:=hI hR2;have Hp1:=hI hpr1;have hy':(Instr.yield l #[.string x.1,(.agg #[.int .i64 x.2.version,.string x.2.text])]).run Tryz.prog (wr.drewN (nq+1)) = .ok (.round l fn tmps assign body) (wr.drewN (nq+1)):=hy;clear hpr hpr1 hJ2 hlp htk hy hR hR2 hJ hJ1 h0 hd hmS hpS hk1 hV;refine (wpIn_wide (n:=n)).1 ?_
    gi_region_with ((refine HR.out.mono ?_;rintro e W3 ⟨b,rfl,hb⟩))
    all_goals (
     rcases hb.out with ⟨rfl,hJ3,hk3⟩|⟨rfl,hJx3⟩
     ·go_wp2
      go_roundw
      case rel =>
       refine ⟨m+1,by first|(congr 1;omega)|go_num,by omega,⟨fun j e hj he=>?_,hJ3,(Hr.out.2.2.drewN _).same hk3⟩⟩
       by_cases hjm:j<m
       ·exact Hr.out.1 j e hjm he
       ·obtain rfl:j=m:=by omega
        have:=Hx.out;rw [he] at this;injection this with this;subst this;exact HV.out
      case measure=>simp [intOf];omega
     ·go_wp2
      refine bodyPost_ret (results_none rfl _ _ _) rfl ?_;exact ⟨⟨_,rfl⟩,.inr ⟨_,Hp1.out,hJx3⟩⟩)
   | false =>
    go_wp2
    go_end0
    refine ⟨⟨_,rfl⟩,.inl ⟨_,rfl,?_⟩⟩;rw [takeWhile_all us m hm Hr.out.1 (fun e he=>by
     have:=Hx.out;rw [he] at this;injection this with this;subst this;exact HV.out)]
    exact abides_pure hJ Hr.out.2.1 ((Kept.refl _ _).drewN nq)
  ·obtain rfl:m=us.length:=by omega
   have hi:((a+us.length:Nat):Int)=(es.length:Int):=by omega
   obtain ⟨q,hq⟩:∃ q,a+us.length=q:=⟨_,rfl⟩;rw [hq] at hi ⊢;obtain rfl:q=es.length:=by omega
   have hd1:decide ((es.length:Int)<(es.length:Int))=false:=by simp
   clear hmb hpb hb ho h1' hpre hJm hkm hi;go_wp2
   go_quiet (fail)
   go_wp2
   go_end0
   refine ⟨⟨_,rfl⟩,.inl ⟨_,rfl,?_⟩⟩;have:=Hr.out.2.1;rw [List.take_length] at this;rw [takeWhile_all us us.length (Nat.le_refl _) Hr.out.1 (fun e he=>by have:=(List.getElem?_eq_some_iff.1 he).1;omega),List.take_length]
   exact abides_pure hJ this ((Kept.refl _ _).drewN _)
theorem r_under (w:World) (g:Nat) (t:ByteArray):Calls Tryz.prog 239 #[.pointer (some ⟨g,0,none⟩),.string t] w fun e w' =>
  e = .returned (.func (.func 261) #[] #[.pointer (some ⟨w.heap.size,0,none⟩),.pointer (some ⟨w.heap.size+1,0,none⟩)])∧w'=(w.alloc (.cells #[.pointer (some ⟨g,0,none⟩)] 175)).alloc (.cells #[.string t] 9):=by
 go_enter Tryz.func239,Tryz.ntmps239
 go_wp2;go_ret;exact ⟨rfl,rfl⟩
theorem r_stops (n:Nat) (hn:1≤n) (Bm Bp g:Nat) (S F:Nat→Prop) (es:List (En Crd)) (t:ByteArray) (w:World)
  (hm:Blk w Bm 175 #[.pointer (some ⟨g,0,none⟩)]) (hmS:¬S Bm) (hp:Blk w Bp 9 #[.string t]) (hpS:¬S Bp) (h:Mr w F g es) (hd:∀ b,F b→¬S b) :
  SeqStopsK Fence.wide n Tryz.prog 261 #[.pointer (some ⟨Bm,0,none⟩),.pointer (some ⟨Bp,0,none⟩)] (encE (α:=Crd) crV) (Kept S) (fun ys=>ys=underE es (kb t)) (fun pre=>pre <+: underE es (kb t)) (underE es (kb t)).length w :=
 fun l J Jx W hW hJ _ hY h0 =>
  have hk:Pure w W:=Pure.of_below hW
  r_under1 n hn l Bm Bp g S F es t J Jx W hJ hY (hm.kept hk (fun h=>h)) hmS (hp.kept hk (fun h=>h)) hpS (h.kept hk (fun _ _ _ h=>h)) (fun b _=>hd b) h0
end
end Go.Proofs.YtjfpfeapbcjioaaGreat
