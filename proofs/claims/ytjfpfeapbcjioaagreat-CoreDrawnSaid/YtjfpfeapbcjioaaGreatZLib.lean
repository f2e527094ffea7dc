/-
  The texts of this claim, put together: Lib, RowC, Idx.
-/
import Derived.WalkKit
import Derived.WalkLawsBesides
import Derived.WalkSpells
import Derived.Lib.Hide
import Derived.Deep.Draws
import Derived.Maps.AppendAt
import Derived.Lib.AppendStr
import Derived.OwnWalk
import Derived.Handy
set_option linter.unusedSimpArgs false
set_option linter.unusedVariables false
set_option maxHeartbeats 12800000
set_option maxRecDepth 100000
namespace Go.Proofs.YtjfpfeapbcjioaaGreat
section
theorem hI {p : Prop} (h : p) : Go.RowKit.Hid p := h
theorem gz0 {g p:Prop} (h:p) (t:Go.RowKit.Hid p→g:=by intro zz;(repeat (first|refine qc ?_|refine qe ?_|refine qs ?_|refine qq ?_|refine qn ?_|refine qy ?_|refine qf ?_|refine ql ?_|refine qi ?_|refine qw ?_|refine qx ?_|refine qr ?_));exact zz.out):g:=t (Go.Lib.hid h)
theorem gz1 {g p:Prop} (h:p) (t:Go.RowKit.Hid p→g:=by intro zz;(repeat (first|refine qc ?_|refine qe ?_|refine qs ?_|refine qq ?_|refine qn ?_|refine qy ?_|refine qf ?_|refine ql ?_|refine qi ?_|refine qw ?_|refine qx ?_|refine qr ?_|refine qk ?_));exact zz.out):g:=t (Go.Lib.hid h)
theorem gz2 {g p:Prop} (h:p) (t:Go.RowKit.Hid p→g:=by intro zz;(repeat (with_reducible refine seq_step (by decide) (by decide) (fun K hK=>?_);go_simp;refine hK _ _ ?_;clear hK K));exact zz.out):g:=t (Go.Lib.hid h)
theorem gz3 {g p:Prop} (h:p) (t:Go.RowKit.Hid p→g:=by intro zz;(repeat (first|refine KS.skip rfl rfl rfl ?_|refine KS.pr (by decide) rfl rfl (PR.evc rfl rfl (by with_reducible assumption)) rfl ?_|refine KS.pr (by decide) rfl rfl (PR.ev rfl) rfl ?_|refine KS.pr (by decide) rfl rfl (PR.fa rfl rfl (by go_simp;first|done|rfl)) rfl ?_|refine KS.pr (by decide) rfl rfl (PR.ld rfl rfl (by go_simp;first|done|rfl)) rfl ?_|refine KS.pr (by decide) rfl rfl (PR.ia rfl rfl rfl (by go_simp;first|done|rfl)) rfl ?_|refine KS.pr (by decide) rfl rfl (PR.len rfl rfl (by go_simp;first|done|rfl)) rfl ?_|refine KS.nil ?_));exact zz.out):g:=t (Go.Lib.hid h)
theorem gz4 {g p:Prop} (h:p) (t:Go.RowKit.Hid p→g:=by intro zz;(repeat (with_reducible refine seq_free (by decide) (by decide) (fun K hK=>?_);go_simp;first|(refine ex_steadyF ?_ (fun w' hw'=>?_) ?_;rotate_left;(skip;go_simp;first|done|rfl);(refine hK _ _ ?_;clear hK K))|(refine hK _ _ ?_;clear hK K)));exact zz.out):g:=t (Go.Lib.hid h)
theorem gz5 {g p:Prop} (h:p) (t:Go.RowKit.Hid p→g:=by intro zz;(try (refine KL.pass 138 (.bool true) (by kernel_rfl) (by kernel_rfl) ?_));exact zz.out):g:=t (Go.Lib.hid h)
theorem gz6 {g p:Prop} (h:p) (t:Go.RowKit.Hid p→g:=by intro zz;(repeat (first|refine qq ?_|refine qy ?_|refine qn ?_|refine qe ?_));exact zz.out):g:=t (Go.Lib.hid h)
theorem gz7 {g p:Prop} (h:p) (t:Go.RowKit.Hid p→g:=by intro zz;(repeat (first|refine KS.skip rfl rfl rfl ?_|refine KS.free (by decide) rfl rfl (fun y hy=>PR.evc rfl rfl (by with_reducible assumption)) rfl ?_|refine KS.free (by decide) rfl rfl (fun y hy=>PR.ev rfl) rfl ?_|refine KS.nil ?_));exact zz.out):g:=t (Go.Lib.hid h)
theorem gz8 {g p:Prop} (h:p) (t:Go.RowKit.Hid p→g:=by intro zz;(repeat (with_reducible refine view_free hV rfl (by decide) (by decide) (fun K hK=>?_);go_simp;first|(refine ex_steadyF ?_ (fun w' hw'=>?_) ?_;rotate_left;((obtain ⟨q1,q2⟩:=hw');go_simp;first|done|rfl);(refine hK _ _ ?_;clear hK K))|(refine hK _ _ ?_;clear hK K)));exact zz.out):g:=t (Go.Lib.hid h)
theorem gz9 {g p:Prop} (h:p) (t:Go.RowKit.Hid p→g:=by intro zz;(repeat (with_reducible refine view_step hV rfl (by decide) (by decide) (fun K hK=>?_);go_simp;refine hK _ _ ?_;clear hK K));exact zz.out):g:=t (Go.Lib.hid h)
theorem gz10 {g p:Prop} (h:p) (t:Go.RowKit.Hid p→g:=by intro zz;(refine KL.makes (v:=.pointer (some ⟨World.heap w |>.size,0,none⟩)) rfl rfl rfl (fun ρ hρ=>by have e:=hρ (.tmp 0) _ rfl;simp only [execOp,e];go_simp;first|done|rfl) ?_);exact zz.out):g:=t (Go.Lib.hid h)
theorem gz11 {g p:Prop} (h:p) (t:Go.RowKit.Hid p→g:=by intro zz;(refine bodyPost_ret (results_cell_tmp Tryz.results255 rfl Hb9.out Tryz.underlying265 rfl (by kernel_rfl)) rfl ?_);exact zz.out):g:=t (Go.Lib.hid h)
theorem gz12 {g p:Prop} (h:p) (t:Go.RowKit.Hid p→g:=by intro zz;(refine wp_store_blk rfl _ _ _ rfl rfl rfl (HB1.out:Blk _ (w.heap.size+1) 265 Fd.none.row) rfl (by kernel_rfl) (by kernel_rfl) rfl ?_);exact zz.out):g:=t (Go.Lib.hid h)
theorem gz13 {g p:Prop} (h:p) (t:Go.RowKit.Hid p→g:=by intro zz;(with_reducible refine seq_nil ?_);exact zz.out):g:=t (Go.Lib.hid h)
theorem gz14 {g p:Prop} (h:p) (t:Go.RowKit.Hid p→g:=by intro zz;(refine wp_store_blk rfl _ _ _ rfl rfl rfl (Hr0.out.blk 0 rfl) rfl (by kernel_rfl) (by kernel_rfl) rfl ?_);exact zz.out):g:=t (Go.Lib.hid h)
theorem gz15 {g p:Prop} (h:p) (t:Go.RowKit.Hid p→g:=by intro zz;(repeat (with_reducible refine view_free hV rfl (by decide) (by decide) (fun K hK=>?_);go_simp;first|(refine ex_steadyF ?_ (fun w' hw'=>?_) ?_;rotate_left;(skip;go_simp;first|done|rfl);(refine hK _ _ ?_;clear hK K))|(refine hK _ _ ?_;clear hK K)));exact zz.out):g:=t (Go.Lib.hid h)
theorem gz16 {g p:Prop} (h:p) (t:Go.RowKit.Hid p→g:=by intro zz;(refine bodyPost_ret (results_cell_tmp Tryz.results14 rfl Hb9.out Tryz.underlying45 rfl (by kernel_rfl)) rfl ?_);exact zz.out):g:=t (Go.Lib.hid h)
theorem gz17 {g p:Prop} (h:p) (t:Go.RowKit.Hid p→g:=by intro zz;(repeat (first|refine KS.skip rfl rfl rfl ?_|refine KS.free (by decide) rfl rfl (fun y hy=>by subst hy;exact PR.evc rfl rfl (by with_reducible assumption)) rfl ?_|refine KS.free (by decide) rfl rfl (fun y hy=>PR.ev rfl) rfl ?_|refine KS.free (by decide) rfl rfl (fun y hy=>by subst hy;exact PR.fa rfl rfl (by go_simp;first|done|rfl)) rfl ?_|refine KS.free (by decide) rfl rfl (fun y hy=>by subst hy;exact PR.ld rfl rfl (by go_simp;first|done|rfl)) rfl ?_|refine KS.nil ?_));exact zz.out):g:=t (Go.Lib.hid h)
theorem gz18 {g p:Prop} (h:p) (t:Go.RowKit.Hid p→g:=by intro zz;(refine wp_store_blk rfl _ _ _ rfl rfl rfl (Hr5.out.blk 0 rfl) rfl (by kernel_rfl) (by kernel_rfl) rfl ?_);exact zz.out):g:=t (Go.Lib.hid h)
theorem cz19 {g:Prop} (t:g:=by exact ⟨by rw [E.out];rfl,HK3.out.trans Hk9.out (fun i hi e=>by have e:i=w.heap.size+1:=e;omega)⟩):g:=t
theorem gz20 {g p:Prop} (h:p) (t:Go.RowKit.Hid p→g:=by intro zz;(refine KL.call rfl rfl rfl rfl rfl (by go_simp) (by have:=CN.out col W (by have:=HL.out.col;unfold maxLen;simp only at this;omega);rw [hn2] at this;exact this) ?_);exact zz.out):g:=t (Go.Lib.hid h)
theorem gz21 {g p:Prop} (h:p) (t:Go.RowKit.Hid p→g:=by intro zz;(refine KL.bop (v:=.bool b5) rfl rfl rfl rfl rfl rfl (by go_simp;subst hb5;by_cases h1:ck=0 <;> by_cases h2:cv=0 <;> simp [h1,h2]) ?_);exact zz.out):g:=t (Go.Lib.hid h)
theorem gz22 {g p:Prop} (h:p) (t:Go.RowKit.Hid p→g:=by intro zz;(refine wp_appB wX.heap.size Tryz.underlying192 info_fd rfl (by omega) (by have:=Hpu1.out.size;rw [World.size_alloc];omega) (Ho1.out.alloc _) (Sl.lit w1 #[.int .i64 f.kind,.int .i64 f.label,.string f.value] 265 3 1 (fdc [f]) rfl rfl) (fdc_one _) (by omega) (by omega) rfl _ _ rfl rfl rfl ?_);exact zz.out):g:=t (Go.Lib.hid h)
theorem gz23 {g p:Prop} (h:p) (t:Go.RowKit.Hid p→g:=by intro zz;(refine KL.told (v:=.agg #[.int .i64 0,.int .i64 0]) rfl rfl rfl (fun ρ hρ=>by go_simp) ?_);exact zz.out):g:=t (Go.Lib.hid h)
theorem gz24 {g p:Prop} (h:p) (t:Go.RowKit.Hid p→g:=by intro zz;(refine wp_region_seq [10] [] (by kernel_rfl) (by kernel_rfl) (by kernel_rfl) ?_);exact zz.out):g:=t (Go.Lib.hid h)
theorem gz25 {g p:Prop} (h:p) (t:Go.RowKit.Hid p→g:=by intro zz;(refine KL.storeB rfl rfl rfl rfl rfl (hra.blk 0 rfl) rfl (by kernel_rfl) (by kernel_rfl) ?_);exact zz.out):g:=t (Go.Lib.hid h)
theorem gz26 {g p:Prop} (h:p) (t:Go.RowKit.Hid p→g:=by intro zz;(refine KL.add ((i+1:Nat):Int) rfl rfl rfl rfl rfl rfl (by omega) (by omega) ?_);exact zz.out):g:=t (Go.Lib.hid h)
theorem gz27 {g p:Prop} (h:p) (t:Go.RowKit.Hid p→g:=by intro zz;(refine calls_kn Tryz.func20 rfl Tryz.ntmps20 rfl ?_);exact zz.out):g:=t (Go.Lib.hid h)
theorem gz28 {g p:Prop} (h:p) (t:Go.RowKit.Hid p→g:=by intro zz;(refine wp_appB w.heap.size Tryz.underlying192 info_fd rfl (by omega) (by have:=Hp4.out.size;rw [World.size_alloc];omega) (HO4.out.alloc _) (Sl.lit w4 #[.int .i64 gk,.int .i64 gl,.string gv] 265 3 1 (fdc [(⟨gk,gl,gv⟩:Fd)]) rfl rfl) (fdc_one _) (by omega) (by omega) rfl _ _ rfl rfl rfl ?_);exact zz.out):g:=t (Go.Lib.hid h)
theorem gz29 {g p:Prop} (h:p) (t:Go.RowKit.Hid p→g:=by intro zz;(refine wp_appB wX.heap.size Tryz.underlying192 info_fd rfl (by omega) Hpu2.out.size Ho2.out ((show Sl w2 (fun _=>True) 3 _ 0 (fdc (out.drop j)) from by rw [List.drop_of_length_le (by have:=hh.out.1;omega)];exact Sl.nil _ _ _ _)) (fdc_one _) (by omega) (by omega) rfl _ _ rfl rfl rfl ?_);exact zz.out):g:=t (Go.Lib.hid h)
theorem gz30 {g p:Prop} (h:p) (t:Go.RowKit.Hid p→g:=by intro zz;(try (refine KL.pass 40 (.bool true) (by kernel_rfl) (by kernel_rfl) ?_));exact zz.out):g:=t (Go.Lib.hid h)
theorem gz31 {g p:Prop} (h:p) (t:Go.RowKit.Hid p→g:=by intro zz;(refine bodyPost_ret (results_cell_tmp Tryz.results270 rfl Hb9.out Tryz.underlying343 rfl (by kernel_rfl)) rfl ?_);exact zz.out):g:=t (Go.Lib.hid h)
theorem gz32 {g p:Prop} (h:p) (t:Go.RowKit.Hid p→g:=by intro zz;(refine wp_app Tryz.underlying243 info_r rfl (by omega) Ho.out Hsv.out (by intro u hu;simp [crCells] at hu;rcases hu with rfl|rfl|rfl <;> rfl) (by omega) (by omega) rfl _ _ rfl rfl rfl ?_);exact zz.out):g:=t (Go.Lib.hid h)
theorem gz33 {g p:Prop} (h:p) (t:Go.RowKit.Hid p→g:=by intro zz;(refine wp_app Tryz.underlying233 info_i rfl (by omega) Ho.out Hsv.out (by intro u hu;simp [enCells] at hu;rcases hu with rfl|rfl <;> rfl) (by omega) (by omega) rfl _ _ rfl rfl rfl ?_);exact zz.out):g:=t (Go.Lib.hid h)
theorem gz34 {g p:Prop} (h:p) (t:Go.RowKit.Hid p→g:=by intro zz;(refine wp_app Tryz.underlying160 info_b rfl (by omega) Ho.out Hsv.out (by intro u hu;simp [enCells] at hu;rcases hu with rfl|rfl <;> rfl) (by omega) (by omega) rfl _ _ rfl rfl rfl ?_);exact zz.out):g:=t (Go.Lib.hid h)
theorem gz35 {g p:Prop} (h:p) (t:Go.RowKit.Hid p→g:=by intro zz;(refine KL.call rfl rfl rfl rfl rfl (by go_simp) (CW.out) ?_);exact zz.out):g:=t (Go.Lib.hid h)
theorem gz36 {g p:Prop} (h:p) (t:Go.RowKit.Hid p→g:=by intro zz;(refine KR.finCT Tryz.results12 rfl rfl HbF.out Tryz.underlying45 rfl (by kernel_rfl) ?_);exact zz.out):g:=t (Go.Lib.hid h)
theorem gz37 {g p:Prop} (h:p) (t:Go.RowKit.Hid p→g:=by intro zz;(refine wp_store_blk rfl _ _ _ rfl rfl rfl (HA5.out:Blk _ w.heap.size 343 (dtC 0 0 0)) rfl (by kernel_rfl) (by kernel_rfl) rfl ?_);exact zz.out):g:=t (Go.Lib.hid h)
theorem gz38 {g p:Prop} (h:p) (t:Go.RowKit.Hid p→g:=by intro zz;(try (refine KL.pass 35 (.bool true) (by kernel_rfl) (by kernel_rfl) ?_));exact zz.out):g:=t (Go.Lib.hid h)
theorem gz39 {g p:Prop} (h:p) (t:Go.RowKit.Hid p→g:=by intro zz;(refine wp_appB wX.heap.size Tryz.underlying192 info_fd rfl (by omega) (Nat.le_refl _) (Own.nil _ _ _ _) hp1 (fdc_one _) (by omega) (by omega) rfl _ _ rfl rfl rfl ?_);exact zz.out):g:=t (Go.Lib.hid h)
theorem gz40 {g p:Prop} (h:p) (t:Go.RowKit.Hid p→g:=by intro zz;(refine KL.call rfl rfl rfl rfl rfl (by go_simp) (by have:=CU.out uid W (by have:=HL.out.uid;unfold maxLen;simp only at this;omega);rw [hn3] at this;exact this) ?_);exact zz.out):g:=t (Go.Lib.hid h)
theorem gz41 {g p:Prop} (h:p) (t:Go.RowKit.Hid p→g:=by intro zz;(refine wp_region_seq [5] [] (by kernel_rfl) (by kernel_rfl) (by kernel_rfl) ?_);exact zz.out):g:=t (Go.Lib.hid h)
theorem gz42 {g p:Prop} (h:p) (t:Go.RowKit.Hid p→g:=by intro zz;(refine wp_region_seq [] [] (by kernel_rfl) (by kernel_rfl) (by kernel_rfl) ?_);exact zz.out):g:=t (Go.Lib.hid h)
theorem cz43 {g:Prop} (t:g:=by exact ⟨none,0,rfl,wk_close (M:=N) Hl.out (by omega) (it_none Hr9.out)⟩):g:=t
theorem gz44 {g p:Prop} (h:p) (t:Go.RowKit.Hid p→g:=by intro zz;(refine wp_appB w.heap.size Tryz.underlying352 info_u8 rfl (by omega) (by have:=Hk2.out.size;simp;omega) (Ho.out.alloc _) (Sl.one _ _ _) (by intro u hu;simp at hu;subst hu;rfl) (by omega) (by omega) rfl _ _ rfl rfl rfl ?_);exact zz.out):g:=t (Go.Lib.hid h)
theorem gz45 {g p:Prop} (h:p) (t:Go.RowKit.Hid p→g:=by intro zz;(refine wp_region_seqS (fun y=>y.cell? ⟨q.gp,2,none⟩=some (pV q.gc)) [6,7] [0,1,2,3,4] (by kernel_rfl) (by kernel_rfl) (by kernel_rfl) hcq ?_);exact zz.out):g:=t (Go.Lib.hid h)
theorem gz46 {g p:Prop} (h:p) (t:Go.RowKit.Hid p→g:=by intro zz;(refine KL.stores (w':=World.setCell w7 ⟨g9,7,none⟩ (.slice B items.length c)) rfl rfl (fun ρ hρ=>by have e1:=hρ (.tmp 95) _ rfl;have e2:=hρ (.tmp 94) _ rfl;simp only [execOp,e1,e2];go_simp;first|done|rfl) ?_);exact zz.out):g:=t (Go.Lib.hid h)
theorem gz47 {g p:Prop} (h:p) (t:Go.RowKit.Hid p→g:=by intro zz;(try (refine KL.pass 67 (.bool true) (by kernel_rfl) (by kernel_rfl) ?_));exact zz.out):g:=t (Go.Lib.hid h)
theorem cz48 {g:Prop} (t:g:=by exact ⟨by rw [E.out];rfl,(HK5.out.trans Hk9.out (fun i hi e=>by have e:i=w.heap.size:=e;omega))⟩):g:=t
theorem cz49 {g:Prop} (t:g:=by exact ⟨v',w',hrun,hown.of_append h2 h5,hown.kept_of_append h3⟩):g:=t
theorem gz50 {g p:Prop} (h:p) (t:Go.RowKit.Hid p→g:=by intro zz;(refine (CV.out _).mono ?_);exact zz.out):g:=t (Go.Lib.hid h)
theorem gz51 {g p:Prop} (h:p) (t:Go.RowKit.Hid p→g:=by intro zz;(refine KL.add ((i+1:Nat):Int) rfl rfl rfl rfl rfl rfl (by have:=HL1.out;omega) (by omega) ?_);exact zz.out):g:=t (Go.Lib.hid h)
theorem gz52 {g p:Prop} (h:p) (t:Go.RowKit.Hid p→g:=by intro zz;(refine KW.regionS (fun y=>Blk y g9 45 _) [5,8] [0,1,2,3,4,6,7,9] (by kernel_rfl) (by kernel_rfl) (by kernel_rfl) hb9 ?_);exact zz.out):g:=t (Go.Lib.hid h)
theorem gz53 {g p:Prop} (h:p) (t:Go.RowKit.Hid p→g:=by intro zz;(refine wp_store_blk rfl _ _ _ rfl rfl rfl hb3 rfl (by kernel_rfl) (by kernel_rfl) rfl ?_);exact zz.out):g:=t (Go.Lib.hid h)
theorem cz54 {g:Prop} (t:g:=by exact rv_congr ok (hun k (.inr (by rintro rfl;exact hi hk))) (fun j hj=>hun j (.inr (by rintro rfl;exact hi (h.down k j hk hj)))) (fun hu'=>absurd hu hu') (h.rvu k hk hu)):g:=t
theorem gz55 {g p:Prop} (h:p) (t:Go.RowKit.Hid p→g:=by intro zz;(refine wp_region_seq [30] [24,25] (by kernel_rfl) (by kernel_rfl) (by kernel_rfl) ?_);exact zz.out):g:=t (Go.Lib.hid h)
theorem cz56 {g:Prop} (t:g:=by exact ⟨rfl,Hfin.out.imp (fun b _ h=>h.imp (fun h=>h) (fun h=>Nat.le_trans hz h)),((hk1.same hk2).mono (fun _ _ h=>h.elim)).same (Hk5.out.mono (fun b _ h=>h1 b h))⟩):g:=t
theorem gz57 {g p:Prop} (h:p) (t:Go.RowKit.Hid p→g:=by intro zz;(refine KS.free (by decide) rfl rfl (fun y hy=>PR.blk rfl rfl hy Tryz.underlying45 rfl (by kernel_rfl)) rfl ?_);exact zz.out):g:=t (Go.Lib.hid h)
theorem gz58 {g p:Prop} (h:p) (t:Go.RowKit.Hid p→g:=by intro zz;(refine wp_region_seqS (fun x=>x.cell? ⟨w.heap.size,2,none⟩=some (.int .i64 d)) [4,9] [0,1,5,6,7,8] (by kernel_rfl) (by kernel_rfl) (by kernel_rfl) hcd ?_);exact zz.out):g:=t (Go.Lib.hid h)
theorem gz59 {g p:Prop} (h:p) (t:Go.RowKit.Hid p→g:=by intro zz;(refine wp_region_seq [6] [] (by kernel_rfl) (by kernel_rfl) (by kernel_rfl) ?_);exact zz.out):g:=t (Go.Lib.hid h)
theorem cz60 {g:Prop} (t:g:=by exact ⟨rfl,⟨none,0,Hr.out.star.imp (fun b _ h=>h.elim (fun h=>h.elim) (fun h=>h))⟩,Hr.out.kept⟩):g:=t
theorem cz61 {g:Prop} (t:g:=by exact ⟨rfl,(H.out.kept hk1 (fun _ _ _ h=>h)).imp (fun _ _ h=>.inl h),hk1.mono (fun _ _ h=>h.elim)⟩):g:=t
theorem gz62 {g p:Prop} (h:p) (t:Go.RowKit.Hid p→g:=by intro zz;(refine wp_region_seqS (fun y=>y.cell? ⟨w.heap.size,8,none⟩=some (.int .i64 token)) [4] [5,6] (by kernel_rfl) (by kernel_rfl) (by kernel_rfl) hct ?_);exact zz.out):g:=t (Go.Lib.hid h)
theorem gz63 {g p:Prop} (h:p) (t:Go.RowKit.Hid p→g:=by intro zz;(refine KL.makes (v:=.pointer (some ⟨World.heap w36 |>.size,0,none⟩)) rfl rfl rfl (fun ρ hρ=>by simp only [execOp];go_simp;first|done|rfl) ?_);exact zz.out):g:=t (Go.Lib.hid h)
theorem gz64 {g p:Prop} (h:p) (t:Go.RowKit.Hid p→g:=by intro zz;(refine KL.makes (v:=.pointer (some ⟨World.heap w2 |>.size,0,none⟩)) rfl rfl rfl (fun ρ hρ=>by simp only [execOp];go_simp;first|done|rfl) ?_);exact zz.out):g:=t (Go.Lib.hid h)
theorem cz65 {g:Prop} (t:g:=by exact ⟨B,c,rfl,do_close2 Hrf.out (by omega)⟩):g:=t
theorem gz66 {g p:Prop} (h:p) (t:Go.RowKit.Hid p→g:=by intro zz;(refine KW.regionS (fun _=>True) [] [] (by kernel_rfl) (by kernel_rfl) (by kernel_rfl) trivial ?_);exact zz.out):g:=t (Go.Lib.hid h)
theorem gz67 {g p:Prop} (h:p) (t:Go.RowKit.Hid p→g:=by intro zz;(try (refine KL.pass 31 (.bool true) (by kernel_rfl) (by kernel_rfl) ?_));exact zz.out):g:=t (Go.Lib.hid h)
theorem cz68 {g:Prop} (t:g:=by exact ⟨hpm,rv_congr ok (h5 k (.inr (by omega))) (fun j hj=>h5 j (.inr (by have:=ok.before _ _ hj;omega))) (fun _ h=>⟨h,rfl⟩) hRp⟩):g:=t
theorem cz69 {g:Prop} (t:g:=by exact ⟨none,0,by rw [E.out];first|done|rfl,by rw [E.out];exact Own.nil _ _ _ _,HP3.out⟩):g:=t
theorem cz70 {g:Prop} (t:g:=by exact ⟨none,0,by rw [E.out];first|done|rfl,by rw [E.out];exact Own.nil _ _ _ _,HP5.out⟩):g:=t
theorem cz71 {g:Prop} (t:g:=by exact ⟨by rw [show decide (65≤b.toNat∧b.toNat≤90)=decide ((b.toNat:Int)≤90) from decide_eq_decide.2 (by omega)];rfl,rfl⟩):g:=t
theorem gz72 {g p:Prop} (h:p) (t:Go.RowKit.Hid p→g:=by intro zz;(refine KR.finCT Tryz.results12 rfl rfl Hb5.out Tryz.underlying45 rfl (by kernel_rfl) ?_);exact zz.out):g:=t (Go.Lib.hid h)
theorem cz73 {g:Prop} (t:g:=by exact ⟨by rw [←HR.out,E1.out];first|done|rfl,Kept.refl _ _⟩):g:=t
theorem gz74 {g p:Prop} (h:p) (t:Go.RowKit.Hid p→g:=by intro zz;(refine KL.call rfl rfl rfl rfl rfl (by go_simp) (first27 w5) ?_);exact zz.out):g:=t (Go.Lib.hid h)
theorem cz75 {g:Prop} (t:g:=by exact (hp1.mono (fun _ _ h=>h.elim)).trans h1 (fun j hj e=>by have h2:j=N:=e;omega)):g:=t
theorem cz76 {g:Prop} (t:g:=by exact Hdone.out j (by have:=Hn.out;omega) o (by rw [List.getElem?_eq_getElem hj,e])):g:=t
theorem gz77 {g p:Prop} (h:p) (t:Go.RowKit.Hid p→g:=by intro zz;(refine bodyPost_ret (results_tmp4 Tryz.results62 _ _ _) rfl ?_);exact zz.out):g:=t (Go.Lib.hid h)
theorem cz78 {g:Prop} (t:g:=by exact ⟨rfl,⟨gc,gl,((Hr1.out.drewN _).drop 0).star⟩,(Hr1.out.drewN _).kept⟩):g:=t
theorem gz79 {g p:Prop} (h:p) (t:Go.RowKit.Hid p→g:=by intro zz;(refine wp_region_seq [13] [] (by kernel_rfl) (by kernel_rfl) (by kernel_rfl) ?_);exact zz.out):g:=t (Go.Lib.hid h)
theorem cz80 {g:Prop} (t:g:=by exact ⟨by rw [E.out];first|done|rfl,Hp.out⟩):g:=t
theorem gz81 {g p:Prop} (h:p) (t:Go.RowKit.Hid p→g:=by intro zz;(refine Lib.wpList_append_run _ rfl _ _ _ _ rfl _ _ rfl rfl _ _ (hapr.out _) ?_);exact zz.out):g:=t (Go.Lib.hid h)
open Go.RowKit Go.Lib
structure Kept (S:Nat→Prop) (w w':World):Prop where
 os:w'.os=w.os
 tape:w'.tape=w.tape
 output:w'.output=w.output
 size:w.heap.size≤w'.heap.size
 block:∀ k,k<w.heap.size→¬S k→w'.heap[k]? = w.heap[k]?
section
variable {S T:Nat→Prop} {a b w w':World}
theorem Kept.refl (S:Nat→Prop) (w:World):Kept S w w:=⟨rfl,rfl,rfl,Nat.le_refl _,fun _ _ _=>rfl⟩
theorem Kept.trans (h:Kept S a b) (k:Kept T b w) (hT:∀ i,i<a.heap.size→T i→S i):Kept S a w :=
  ⟨k.os.trans h.os,k.tape.trans h.tape,k.output.trans h.output,Nat.le_trans h.size k.size,
   fun i hi hn=>(k.block i (Nat.lt_of_lt_of_le hi h.size) (fun ht=>hn (hT i hi ht))).trans (h.block i hi hn)⟩
theorem Kept.mono (h:Kept S a b) (hT:∀ i,i<a.heap.size→S i→T i):Kept T a b :=
 ⟨h.os,h.tape,h.output,h.size,fun i hi hn=>h.block i hi fun hs=>hn (hT i hi hs)⟩
theorem Kept.same (h:Kept S a b) (k:Kept S b w):Kept S a w:=h.trans k fun _ _ h=>h
theorem Kept.drew (h:Kept S a w):Kept S a w.drew:=⟨h.os,h.tape,h.output,h.size,h.block⟩
theorem Kept.drewN (h:Kept S a w) (n:Nat):Kept S a (w.drewN n):=⟨h.os,h.tape,h.output,h.size,h.block⟩
theorem Kept.alloc (h:Kept S a w) (o:Obj):Kept S a (w.alloc o) :=
 ⟨h.os,h.tape,h.output,Nat.le_trans h.size (by simp),fun i hi hn=>(Below.heap_alloc w o i (Nat.lt_of_lt_of_le hi h.size)).trans (h.block i hi hn)⟩
theorem Kept.setCell (h:Kept S a w) {p:Addr} (hp:S p.block∨a.heap.size≤p.block) (u:Value):Kept S a (w.setCell p u) :=
 ⟨h.os,h.tape,h.output,by simpa [World.setCell] using h.size,fun i hi hn=>(Below.heap_setCell w p u i (by
  rintro rfl;rcases hp with hp|hp
  ·exact hn hp
  ·omega)).trans (h.block i hi hn)⟩
theorem Kept.grown (h:Kept S a w) {row:Option Nat} (hg:w.grownBy w' row) (hr:∀ k,row=some k→S k∨a.heap.size≤k):Kept S a w' :=
  ⟨hg.os.trans h.os,hg.tape.trans h.tape,hg.output.trans h.output,Nat.le_trans h.size hg.size,
   fun i hi hn=>(hg.block i (Nat.lt_of_lt_of_le hi h.size) (fun e=>by
     rcases hr i e.symm with hs|hs
     · exact hn hs
     · omega)).trans (h.block i hi hn)⟩
end
abbrev Pure (w w':World):Prop:=Kept (fun _=>False) w w'
theorem Pure.below {w w':World} (h:Pure w w'):Below w.heap.size w w':=⟨h.os,h.tape,h.output,h.size,fun k hk=>h.block k hk (fun h=>h)⟩
theorem Pure.of_below {w w':World} (h:Below w.heap.size w w'):Pure w w':=⟨h.os,h.tape,h.output,h.size,fun k hk _=>h.block k hk⟩
def Blk (w:World) (g:Nat) (t:TypeId) (cs:Array Value):Prop:=w.heap[g]? = some (.cells cs t (0,0))
section
variable {S:Nat→Prop} {w w':World} {g:Nat} {t:TypeId} {cs:Array Value}
theorem Blk.lt (h:Blk w g t cs):g<w.heap.size:=(Array.getElem?_eq_some_iff.1 h).1
theorem Blk.cell (h:Blk w g t cs) (i:Nat):w.cell? ⟨g,i,none⟩=cs[i]?:=cell_of_row w g i cs t (0,0) h
theorem Blk.frozen (h:Blk w g t cs) (i:Nat):w.frozen? ⟨g,i,none⟩=false:=frozen_of_row w g i cs t h
theorem Blk.new (w:World) (t:TypeId) (cs:Array Value):Blk (w.alloc (.cells cs t)) w.heap.size t cs:=heap_alloc_new w _
theorem Blk.drewN (h:Blk w g t cs) (n:Nat):Blk (w.drewN n) g t cs:=h
theorem Blk.alloc (h:Blk w g t cs) (o:Obj):Blk (w.alloc o) g t cs:=(Below.heap_alloc w o g h.lt).trans h
theorem Blk.set (h:Blk w g t cs) (i:Nat) (u:Value):Blk (w.setCell ⟨g,i,none⟩ u) g t (cs.setIfInBounds i u):=by
 unfold Blk at h ⊢;simp [World.setCell,Array.getElem?_modify,h]
theorem Blk.far (h:Blk w g t cs) {p:Addr} (hp:g≠p.block) (u:Value):Blk (w.setCell p u) g t cs:=(Below.heap_setCell w p u g hp).trans h
theorem Blk.kept (h:Blk w g t cs) (hk:Kept S w w') (hg:¬S g):Blk w' g t cs:=(hk.block g h.lt hg).trans h
end
def Sl (w:World) (F:Nat→Prop) (k:Nat) (A:Option Addr) (n:Nat) (xs:List Value):Prop :=
 xs.length=n*k∧(0<n→∃ b o,A=some ⟨b,o,none⟩∧F b∧b<w.heap.size∧∀ j,j<xs.length→w.cell? ⟨b,o+j,none⟩=xs[j]?)
section
variable {S F G:Nat→Prop} {w w':World} {k n:Nat} {A:Option Addr} {xs:List Value}
theorem Sl.nil (w:World) (F:Nat→Prop) (k:Nat) (A:Option Addr):Sl w F k A 0 []:=⟨by simp,fun h=>absurd h (by omega)⟩
theorem Sl.imp (h:Sl w F k A n xs) (hF:∀ b,b<w.heap.size→F b→G b):Sl w G k A n xs :=
 ⟨h.1,fun hn=>let ⟨b,o,e,f,l,c⟩:=h.2 hn;⟨b,o,e,hF b l f,l,c⟩⟩
theorem Sl.kept (h:Sl w F k A n xs) (hk:Kept S w w') (hd:∀ b,b<w.heap.size→F b→¬S b):Sl w' F k A n xs :=
 ⟨h.1,fun hn=>let ⟨b,o,e,f,l,c⟩:=h.2 hn
  ⟨b,o,e,f,Nat.lt_of_lt_of_le l hk.size,fun j hj=>(World.cell?_of_block (a:=⟨b,o+j,none⟩) (hk.block b l (hd b l f))).trans (c j hj)⟩⟩
theorem Sl.drewN (h:Sl w F k A n xs) (m:Nat):Sl (w.drewN m) F k A n xs:=h
theorem Sl.alloc (h:Sl w F k A n xs) (o:Obj):Sl (w.alloc o) F k A n xs:=h.kept (S:=fun _=>False) ((Kept.refl _ _).alloc o) (fun _ _ _ h=>h)
end
theorem Sl.one (w:World) (v:Value) (t:TypeId):Sl (w.alloc (.cells #[v] t)) (fun g=>g=w.heap.size) 1 (some ⟨w.heap.size,0,none⟩) 1 [v] :=
 ⟨rfl,fun _=>⟨w.heap.size,0,rfl,rfl,by simp,fun j hj=>by simp at hj;subst hj;simp⟩⟩
theorem Sl.lit (w:World) (cs:Array Value) (t:TypeId) (k n:Nat) (xs:List Value) (h:cs.size=n*k) (hx:cs.toList=xs):Sl (w.alloc (.cells cs t)) (fun g=>g=w.heap.size) k (some ⟨w.heap.size,0,none⟩) n xs:=by
 subst hx;exact ⟨by simpa using h,fun _=>⟨w.heap.size,0,rfl,rfl,by simp,fun j hj=>by simp⟩⟩
def bv (b:UInt8):Value:=.int .u8 (b.toNat:Int)
def bvs (l:List UInt8):List Value:=l.map bv
@[simp] theorem bvs_length (l:List UInt8):(bvs l).length=l.length:=by simp [bvs]
theorem bvs_append (a b:List UInt8):bvs (a++b)=bvs a++bvs b:=by simp [bvs]
theorem bvs_at (l:List UInt8) (j:Nat) (h:j<l.length):(bvs l)[j]? = some (.int .u8 ((l[j]'h).toNat:Int)):=by
 simp [bvs,bv,h]
theorem run_str {P:Program} {w:World} {F:Nat→Prop} {A:Option Addr} {n:Nat} {l:List UInt8} (h:Sl w F 1 A n (bvs l)) (src dst e:TypeId) (c:Nat)
  (hs:P.underlying src=some (.slice e)) (he:P.underlying e=some (.int .u8)) (hd:P.underlying dst=some .string) :
  (convert src dst (.slice A n c)).run P w = .ok (.string ⟨l.toArray⟩) w:=by
 have hl:l.length=n:=by have:=h.1;simp at this;omega
 have hmap:(l.map fun b=>(b.toNat:Int)).map (fun n=>UInt8.ofNat n.toNat)=l:=by
  rw [List.map_map]
  conv=>rhs;rw [←List.map_id l]
  apply List.map_congr_left
  intro b _;simp
 rcases Nat.eq_zero_or_pos n with h0|h0
 ·subst h0
  have:l=[]:=List.eq_nil_of_length_eq_zero hl;subst this;cases A with
  | none=>exact run_convert_bytes_nil w src e hs he 0 c dst hd
  | some a =>
   rw [run_convert_bytes_string w src dst e _ 0 c hs he hd];have:=run_bytesToString (P:=P) w a 0 c [] (by simpa using run_loadCells_list (P:=P) w a [] (by simp))
   rw [this];rfl
 ·obtain ⟨b,o,rfl,_,_,hc⟩:=h.2 h0
  rw [run_convert_bytes_arg (P:=P) w src e hs he b o n c (l.map fun b=>(b.toNat:Int)) (by simpa using hl) ?_ dst hd]
  ·unfold strOfNums
   rw [hmap]
  ·intro i hi
   rw [hc i (by simpa [hl] using hi),bvs_at _ _ (by omega)]
   simp [show i<l.length by omega]
theorem bvs_take (l:List UInt8) (k:Nat):bvs (l.take k)=(bvs l).take k:=by simp [bvs]
theorem Sl.pre {w:World} {F:Nat→Prop} {k n:Nat} {A:Option Addr} {xs:List Value} (h:Sl w F k A n xs) (m:Nat) (hm:m≤n):Sl w F k A m (xs.take (m*k)):=by
 have hle:m*k≤n*k:=Nat.mul_le_mul_right _ hm;refine ⟨by rw [List.length_take,h.1];omega,fun h0=>?_⟩
 obtain ⟨b,o,e,f,l,c⟩:=h.2 (by omega)
 refine ⟨b,o,e,f,l,fun j hj=>?_⟩;rw [List.length_take] at hj;rw [c j (by omega),List.getElem?_take,if_pos (by omega)]
def Own (w:World) (F:Nat→Prop) (e:TypeId) (k:Nat) (v:Value) (n:Nat) (xs:List Value):Prop :=
 w.ownsRow 0 e k v n xs∧∀ g,v.ownBlock=some g→F g
section
variable {S F G:Nat→Prop} {w w':World} {e:TypeId} {k n:Nat} {v:Value} {xs:List Value}
theorem Own.nil (w:World) (F:Nat→Prop) (e:TypeId) (k:Nat):Own w F e k (.slice none 0 0) 0 []:=⟨World.ownsRow_nil w 0 e k,fun _ h=>by cases h⟩
theorem Own.imp (h:Own w F e k v n xs) (hF:∀ b,b<w.heap.size→F b→G b):Own w G e k v n xs:=⟨h.1,fun g hg=>hF g (h.1.lt g hg).2 (h.2 g hg)⟩
theorem Own.form (h:Own w F e k v n xs):∃ A c,v = .slice A n c∧n≤c∧c≤maxLen∧xs.length=n*k∧Sl w F k A n xs:=by
 obtain ⟨h1,h2⟩:=h;have hl:=h1.1;rcases h1.2 with ⟨rfl,rfl⟩|⟨g,cap,cur,rfl,hb,hg,hc,hm,hs,ht⟩
 ·have hx:xs=[]:=List.eq_nil_of_length_eq_zero (by simpa using hl)
  subst hx;exact ⟨none,0,rfl,Nat.le_refl _,Nat.zero_le _,by simp,Sl.nil _ _ _ _⟩
 ·refine ⟨_,cap,rfl,hc,hm,hl,hl,fun hn=>⟨g,0,rfl,h2 g rfl,(Array.getElem?_eq_some_iff.1 hg).1,fun j hj=>?_⟩⟩
  rw [Nat.zero_add,cell_of_row w g j cur e (0,0) hg,←ht,List.getElem?_take,if_pos (by omega)]
  simp
theorem Own.sl {A:Option Addr} {c:Nat} (h:Own w F e k (.slice A n c) n xs):Sl w F k A n xs:=by
 obtain ⟨A',c',hv,_,_,_,hs⟩:=h.form;injection hv with h1 _ _;subst h1;exact hs
theorem Own.kept (h:Own w F e k v n xs) (hk:Kept S w w') (hd:∀ b,b<w.heap.size→F b→¬S b):Own w' F e k v n xs:=by
 refine ⟨⟨h.1.1,?_⟩,h.2⟩;rcases h.1.2 with hn|⟨g,cap,cur,rfl,hb,hg,rest⟩
 ·exact .inl hn
 ·have hlt:=(Array.getElem?_eq_some_iff.1 hg).1
  exact .inr ⟨g,cap,cur,rfl,hb,(hk.block g hlt (hd g hlt (h.2 g rfl))).trans hg,rest⟩
theorem Own.alloc (h:Own w F e k v n xs) (o:Obj):Own (w.alloc o) F e k v n xs:=⟨h.1.alloc o,h.2⟩
theorem Own.drew (h:Own w F e k v n xs):Own w.drew F e k v n xs:=h
theorem Own.of_append {w1:World} {v':Value} {n':Nat} {xs':List Value} (h:Own w F e k v n xs) (ho:w1.ownsRow 0 e k v' n' xs') (ha:v'.ownBlock=v.ownBlock∨v'.ownBlock=some w.heap.size) :
  Own w1 (fun g=>F g∨g=w.heap.size) e k v' n' xs' :=
 ⟨ho,fun g hg=>by
  rcases ha with ha|ha
  ·exact .inl (h.2 g (by rw [←ha];exact hg))
  ·rw [hg] at ha;injection ha with ha;exact .inr ha⟩
theorem Own.kept_of_append {w1:World} (h:Own w F e k v n xs) (hg:w.grownBy w1 v.ownBlock):Kept F w w1 :=
 (Kept.refl F w).grown hg fun g hg=>.inl (h.2 g hg)
end
def Held (p:Prop):Prop:=p
theorem held {p:Prop} (h:Held p):p:=h
theorem unheld {p:Prop} (h:p):Held p:=h
section
variable {P:Program} {w:World} {ops:Array Oper} {rest:List Oper} {o:Oper} {a:Act} {Q:Exit→Act→World→Prop}
theorem run_app_nil (t ty e:TypeId) (i:TypeInfo) (k:Nat) (ht:P.underlying t=some (.slice e)) (hi:P.info? e=some i)
  (v:Value) (n:Nat) (xs:List Value) (hown:w.ownsRow 0 e k v n xs) (c:Nat):(Builtin.append_ #[t,t] ty #[v,.slice none 0 c]).run P w = .ok v w:=by
 rcases hown.2 with ⟨rfl,rfl⟩|⟨g,cap,cur,rfl,_,_,hnc,_⟩
 ·simp [Builtin.append_,run_underlying ht,sizeOf,typeInfo,hi,Builtin.lenOf,Builtin.firstCells]
 ·simp [Builtin.append_,run_underlying ht,sizeOf,typeInfo,hi,Builtin.lenOf,Builtin.firstCells,hnc,storeCells]
theorem wp_app {t e:TypeId} {z:Value} {k by_:Nat} (ht:P.underlying t=some (.slice e)) (hI:(P.info? e).map (fun i=>(i.zero,i.size,i.bytes))=some (some z,k,by_)) (hzs:z.cells.size=k) (hk:0<k)
  {v:Value} {n:Nat} {xs:List Value} {F G:Nat→Prop} (hown:Own w F e k v n xs) {A:Option Addr} {m c:Nat} {news:List Value} (hr:Sl w G k A m news) (h1:∀ u∈news,u.oneCell'=true)
  (hbytes:n+m≤1073741824) (hb2:by_≤65536)
  (hgd:o.guard=none) (s x:Operand) (ho:o.op = .call { callee:=.builtin .append,args:=#[s,x],argTypes:=#[t,t] }) (hs:a.eval s=v) (hx:a.eval x = .slice A m c)
  (h:∀ v' w',Own w' (fun g=>F g∨g=w.heap.size) e k v' (n+m) (xs++news)→Kept F w w'→wpList P ops Q rest (a.put o.dst v') w'):wpList P ops Q (o::rest) a w:=by
 obtain ⟨i,hi,hz,hsize,hby⟩:=info_parts hI;have h63:n+m≤maxLen:=by unfold maxLen;omega
 have hbb:(n+m)*by_≤140737488355328:=by
  have:=Nat.mul_le_mul hbytes hb2;omega
 have key:∃ v' w',(Builtin.append_ #[t,t] o.type #[v,.slice A m c]).run P w = .ok v' w'∧Own w' (fun g=>F g∨g=w.heap.size) e k v' (n+m) (xs++news)∧Kept F w w':=by
  rcases Nat.eq_zero_or_pos m with h0|h0
  ·subst h0
   have hn:news=[]:=List.eq_nil_of_length_eq_zero (by simpa using hr.1)
   subst hn;cases A with
   | none=>exact ⟨v,w,run_app_nil t _ e i k ht hi v n xs hown.1 c,by simpa using hown.imp (fun _ _ h=>.inl h),Kept.refl _ _⟩
   | some ad =>
    obtain ⟨v',w',hrun,h2,h3,_,h5⟩:=run_append_own_at (P:=P) w 0 t o.type e i z k by_ ht hi hz hsize hby hzs hk v n xs hown.1 ad 0 c [] (by simp) (by simp) (by simp) h63 hbb (Nat.zero_le _)
    exact cz49
  ·obtain ⟨b,off,rfl,_,_,hc⟩:=hr.2 h0
   have hcells:∀ j u,news[j]? = some u→w.cell? ((⟨b,off,none⟩:Addr).add j)=some u:=by
    intro j u hu;rw [Addr.add_lit,hc j (List.getElem?_eq_some_iff.1 hu).1];exact hu
   obtain ⟨v',w',hrun,h2,h3,_,h5⟩:=run_append_own_at (P:=P) w 0 t o.type e i z k by_ ht hi hz hsize hby hzs hk v n xs hown.1 ⟨b,off,none⟩ m c news hr.1 hcells h1 h63 hbb (Nat.zero_le _);exact cz49
 refine wpList_plain hgd fun K hK=>?_;obtain ⟨v',w',hrun,h2,h3⟩:=key;unfold Oper.wp execOp;simp only [ho,resolve,invoke,builtin,Sem.run_bind,Sem.run_pure,Result.andThen_ok,List.map_toArray,List.map_cons,List.map_nil,hs,hx,hrun];exact hK _ _ (h v' w' h2 h3)
theorem wp_appB (B:Nat) {t e:TypeId} {z:Value} {k by_:Nat} (ht:P.underlying t=some (.slice e)) (hI:(P.info? e).map (fun i=>(i.zero,i.size,i.bytes))=some (some z,k,by_)) (hzs:z.cells.size=k) (hk:0<k)
  (hB:B≤w.heap.size) {v:Value} {n:Nat} {xs:List Value} {G:Nat→Prop} (hown:Own w (fun g=>B≤g) e k v n xs) {A:Option Addr} {m c:Nat} {news:List Value} (hr:Sl w G k A m news) (h1:∀ u∈news,u.oneCell'=true)
  (hbytes:n+m≤1073741824) (hb2:by_≤65536)
  (hgd:o.guard=none) (s x:Operand) (ho:o.op = .call { callee:=.builtin .append,args:=#[s,x],argTypes:=#[t,t] }) (hs:a.eval s=v) (hx:a.eval x = .slice A m c)
  (h:∀ v' w',Own w' (fun g=>B≤g) e k v' (n+m) (xs++news)→Kept (fun g=>B≤g) w w'→wpList P ops Q rest (a.put o.dst v') w'):wpList P ops Q (o::rest) a w :=
 wp_app ht hI hzs hk hown hr h1 hbytes hb2 hgd s x ho hs hx fun v' w' h2 h3=>h v' w' (h2.imp fun b _ h=>by rcases h with h|h <;> omega) h3
end
end
section
open Go.RowKit
section
variable {α:Type}
theorem fm_length (f:α→List Value) (k:Nat) (hf:∀ a,(f a).length=k) (l:List α):(l.flatMap f).length=l.length*k:=by
 induction l with
 | nil=>simp
 | cons a l ih=>rw [List.flatMap_cons,List.length_append,hf,ih,List.length_cons,Nat.succ_mul];omega
theorem fm_get (f:α→List Value) (k:Nat) (hf:∀ a,(f a).length=k) (l:List α) (i j:Nat) (e:α) (h:l[i]? = some e) (hj:j<k):(l.flatMap f)[i*k+j]? = (f e)[j]?:=by
 induction l generalizing i with
 | nil=>simp at h
 | cons x l ih =>
  cases i with
  | zero =>
   simp at h;subst h;rw [List.flatMap_cons,List.getElem?_append_left (by rw [hf];omega)]
   congr 1
   omega
  | succ i =>
   rw [List.flatMap_cons,Nat.succ_mul,List.getElem?_append_right (by rw [hf];omega),hf,show i*k+k+j-k=i*k+j from by omega]
   exact ih i (by simpa using h)
theorem sl_at {f:α→List Value} {k:Nat} (hf:∀ a,(f a).length=k) {w:World} {F:Nat→Prop} {b o n:Nat} {l:List α} (h:Sl w F k (some ⟨b,o,none⟩) n (l.flatMap f)) (hn:0<n) {i:Nat} {e:α} (he:l[i]? = some e) (j:Nat) (hj:j<k) :
  w.cell? ⟨b,o+i*k+j,none⟩=(f e)[j]?:=by
 obtain ⟨b',o',hA,_,_,hc⟩:=h.2 hn;injection hA with hA;injection hA with e1 e2;subst e1 e2;have hi:=(List.getElem?_eq_some_iff.1 he).1;have hle:(i+1)*k≤l.length*k:=Nat.mul_le_mul_right _ hi;rw [Nat.succ_mul] at hle;rw [Nat.add_assoc,hc (i*k+j) (by rw [fm_length f k hf];omega),fm_get f k hf l i j e he hj]
theorem sl_one {w:World} {F:Nat→Prop} {b o n:Nat} {f:α→Value} {l:List α} (h:Sl w F 1 (some ⟨b,o,none⟩) n (l.map f)) {i:Nat} {e:α} (he:l[i]? = some e):w.cell? ⟨b,o+i,none⟩=some (f e):=by
 have hi:=(List.getElem?_eq_some_iff.1 he).1;have hl:=h.1;simp at hl;obtain ⟨b',o',hA,_,_,hc⟩:=h.2 (by omega)
 injection hA with hA
 injection hA with e1 e2
 subst e1 e2;rw [hc i (by simpa using hi),List.getElem?_map,he]
 rfl
end
end
section
def idx {α:Type} (p:α→Bool) (l:List α):Int:=match l.findIdx? p with|some i=>(i:Nat)|none=>-1
theorem idx_some {α:Type} {p:α→Bool} {l:List α} {k:Nat} {x:α} (hx:l[k]? = some x) (hp:p x=true) (hb:∀ j y,j<k→l[j]? = some y→p y=false):idx p l=(k:Nat):=by
 have:l.findIdx? p=some k:=by
  rw [List.findIdx?_eq_some_iff_getElem];obtain ⟨hk1,hk2⟩:=(List.getElem?_eq_some_iff.1 hx);refine ⟨hk1,by rw [hk2];exact hp,fun j hj=>?_⟩
  have hjl:j<l.length:=by omega
  rw [hb j (l[j]'hjl) hj (List.getElem?_eq_getElem hjl)];simp
 unfold idx;rw [this]
theorem idx_none {α:Type} {p:α→Bool} {l:List α} (hb:∀ (j:Nat) (y:α),l[j]? = some y→p y=false):idx p l = -1:=by
 have:l.findIdx? p=none:=by
  rw [List.findIdx?_eq_none_iff];intro x hx;obtain ⟨j,hj⟩:=List.mem_iff_getElem?.1 hx;exact hb j x hj
 unfold idx;rw [this]
theorem idx_any {α:Type} (p:α→Bool) (l:List α):decide (0≤idx p l)=l.any p:=by
 unfold idx;cases h:l.findIdx? p with
 | none =>
  have:l.any p=false:=by
   rw [List.findIdx?_eq_none_iff] at h;simpa using h
  rw [this];rfl
 | some i =>
  have:l.any p=true:=by
   rw [List.findIdx?_eq_some_iff_getElem] at h;obtain ⟨h1,h2,_⟩:=h;exact List.any_eq_true.2 ⟨_,List.getElem_mem h1,h2⟩
  rw [this];simp
end
end Go.Proofs.YtjfpfeapbcjioaaGreat
