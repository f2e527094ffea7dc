/- PackBack: the walk -/
import Derived.Test.YtlmfpadlgdmflaaPackL
import Derived.Test.YtlmfpadlgdmflaaMix
import Derived.Test.YtlmfpadlgdmflaaOpen
set_option linter.unusedSimpArgs false
set_option linter.unusedVariables false
namespace Go.Proofs.Ytlmfpadlgdmflaa
open Go.RowKit
set_option maxRecDepth 100000

theorem own_cap {w : World} {F : Nat → Prop} {e : TypeId} {k n c : Nat} {A : Option Addr} {xs : List Value} (h : Own w F e k (.slice A n c) n xs) : n ≤ c ∧ c ≤ maxLen := by
  obtain ⟨A', c', hv, h1, h2, _, _⟩ := h.form
  injection hv with _ _ h3
  subst h3
  exact ⟨h1, h2⟩

def nums (l : List Int) : List UInt8 := l.flatMap Pk.num
def texts (t : List ByteArray) : List UInt8 := t.flatMap fun s => Pk.text s.data.toList
theorem nums_le (l : List Int) : (nums l).length ≤ 9 * l.length := by
  induction l with
  | nil => simp [nums]
  | cons a l ih =>
    have := Pk.num_length_le a
    simp [nums] at ih ⊢
    omega
theorem nums_snoc (l : List Int) (j : Nat) (h : j < l.length) : nums (l.take (j + 1)) = nums (l.take j) ++ Pk.num l[j] := by
  rw [List.take_succ_eq_append_getElem h, nums, List.flatMap_append]; simp [nums]
theorem texts_snoc (t : List ByteArray) (j : Nat) (h : j < t.length) : texts (t.take (j + 1)) = texts (t.take j) ++ Pk.text t[j].data.toList := by
  rw [List.take_succ_eq_append_getElem h, texts, List.flatMap_append]; simp [texts]
theorem texts_le (t : List ByteArray) (h : ∀ s ∈ t, s.size ≤ 300) : (texts t).length ≤ 309 * t.length := by
  induction t with
  | nil => simp [texts]
  | cons a t ih =>
    have h1 := Pk.num_length_le (a.data.toList.length : Int)
    have h2 : a.data.toList.length ≤ 300 := by rw [Array.length_toList]; exact h a (by simp)
    have h3 := ih (fun s hs => h s (by simp [hs]))
    simp [texts, Pk.text] at h1 h2 h3 ⊢
    omega

set_option maxHeartbeats 4000000 in
theorem back_walk (A0 A1 A2 : Option Addr) (n0 n1 n2 c0 c1 c2 : Nat) (L : List Int) (T : List ByteArray) (M : List UInt8) (w : World)
    (hl : Sl w (fun _ => True) 1 A0 n0 (L.map (Value.int .i64))) (ht : Sl w (fun _ => True) 1 A1 n1 (T.map Value.string)) (hm : Sl w (fun _ => True) 1 A2 n2 (bvs M))
    (h20 : n0 ≤ 20) (h10 : n1 ≤ 10) (hm20 : n2 ≤ 20) (hL : ∀ z ∈ L, z ≤ 9223372036854775807) :
    Calls Try.prog 5 #[.slice A0 n0 c0, .slice A1 n1 c1, .slice A2 n2 c2] w (TrueP w) := by
  have hn0 : L.length = n0 := by have := hl.1; simpa using this
  have hn1 : T.length = n1 := by have := ht.1; simpa using this
  have hn2 : M.length = n2 := by have := hm.1; simpa using this
  have Hn0 := Lib.hid hn0
  have Hn1 := Lib.hid hn1
  have Hn2 := Lib.hid hn2
  have HL := Lib.hid hL
  clear hn0 hn1 hn2 hL
  have h20' : ((20 : Int) < (n0 : Int)) = False := by simp; omega
  have h10' : ((10 : Int) < (n1 : Int)) = False := by simp; omega
  have h30' : ((20 : Int) < (n2 : Int)) = False := by simp; omega
  go_enter Try.func5, Try.ntmps5
  go_wp2_with fail
  refine (first10 w).mono ?_
  rintro e w1 ⟨rfl, hk1⟩
  go_wp2_with (first | (at_builtin; refine held ?_) | (at_make; refine held ?_))
  go_loopw [7, 8] (fun v i wr => ∃ j A c, j ≤ n0 ∧ i = .int .i64 (j : Nat) ∧ v = .slice A (nums (L.take j)).length c ∧ Sl wr (fun _ => True) 1 A (nums (L.take j)).length (bvs (nums (L.take j))) ∧ Pure w wr) (fun _ i _ => n0 - (intOf i).toNat)
  case atStart => exact ⟨0, none, 0, Nat.zero_le _, rfl, rfl, Sl.nil _ _ _ _, hk1⟩
  case round =>
    obtain ⟨j, A, c, hj, rfl, rfl, hs, hkr⟩ := hrel
    clear hk1
    by_cases hjn : j < n0
    · obtain ⟨b, o, rfl, _, _, hc⟩ := (hl.kept hkr fun _ _ _ h => h).2 (by omega)
      have hcj := hc j (by simp; have := Hn0.out; omega)
      rw [List.getElem?_map, List.getElem?_eq_getElem (by have := Hn0.out; omega)] at hcj
      simp only [Option.map_some] at hcj
      obtain ⟨z, hz⟩ : ∃ z, z = L[j]'(by have := Hn0.out; omega) := ⟨_, rfl⟩
      rw [← hz] at hcj
      have e1 : nums (L.take (j + 1)) = nums (L.take j) ++ Pk.num z := by rw [hz]; exact nums_snoc L j _
      have hz1 : z ≤ 9223372036854775807 := HL.out z (by rw [hz]; exact List.getElem_mem _)
      have hle := nums_le (L.take j)
      have hle2 : (L.take j).length ≤ 20 := by simp; omega
      obtain ⟨N, hN⟩ : ∃ N, N = nums (L.take j) := ⟨_, rfl⟩
      rw [← hN] at hs e1 hle ⊢
      have E1 := Lib.hid e1
      have HN := Lib.hid hN
      have Hp := Lib.hid (put_any A N.length c N wr _ hs (by omega) z hz1)
      clear hc hz e1 hN
      go_wp2_with fail
      refine Hp.out.mono ?_
      rintro e w2 ⟨A', c', rfl, ho, hk2⟩
      go_wp2
      go_roundw
      case rel =>
        refine ⟨j + 1, A', c', by omega, by go_num, ?_, ?_, hkr.same hk2⟩
        · rw [E1.out]
          simp
        · rw [E1.out]
          exact ho.sl.imp fun _ _ _ => trivial
      case measure => simp [intOf]; omega
    · obtain rfl : n0 = j := by omega
      have hle := nums_le (L.take n0)
      have hle2 : (L.take n0).length ≤ 20 := by simp; omega
      rw [List.take_of_length_le (by have := Hn0.out; omega)] at hs hle ⊢
      have hle3 : (nums L).length ≤ 180 := by have := Hn0.out; omega
      obtain ⟨N, hN⟩ : ∃ N, N = nums L := ⟨_, rfl⟩
      rw [← hN] at hs hle3 ⊢
      have HN := Lib.hid hN
      clear hN hle hle2
      go_wp2_with fail
      go_loopw [7, 9] (fun v i wr => ∃ j A c, j ≤ n1 ∧ (∀ s ∈ T.take j, s.size ≤ 300) ∧ i = .int .i64 (j : Nat) ∧ v = .slice A (N ++ texts (T.take j)).length c ∧ Sl wr (fun _ => True) 1 A (N ++ texts (T.take j)).length (bvs (N ++ texts (T.take j))) ∧ Pure w wr) (fun _ i _ => n1 - (intOf i).toNat)
      case atStart => exact ⟨0, A, c, Nat.zero_le _, by simp, rfl, by simp [texts], by simpa [texts] using hs, hkr⟩
      case round =>
        obtain ⟨j, A, c, hj, h300, rfl, rfl, hs, hkr⟩ := hrel
        have H300 := Lib.hid h300
        clear h300
        by_cases hjn : j < n1
        · obtain ⟨b, o, rfl, _, _, hc⟩ := (ht.kept hkr fun _ _ _ h => h).2 (by omega)
          have hcj := hc j (by simp; have := Hn1.out; omega)
          rw [List.getElem?_map, List.getElem?_eq_getElem (by have := Hn1.out; omega)] at hcj
          simp only [Option.map_some] at hcj
          obtain ⟨z, hz⟩ : ∃ z, z = T[j]'(by have := Hn1.out; omega) := ⟨_, rfl⟩
          rw [← hz] at hcj
          have Hz := Lib.hid hz
          by_cases hbig : 300 < z.size
          · have hbig' : (300 : Int) < (z.size : Int) := by omega
            clear hc hz
            go_wp2_with fail
            refine (first10 _).mono ?_
            rintro e w2 ⟨rfl, hk2⟩
            go_wp2
            go_ret
            exact ⟨rfl, hkr.same hk2⟩
          · have hbig' : ((300 : Int) < (z.size : Int)) = False := by simp; omega
            have e1 : N ++ texts (T.take (j + 1)) = N ++ texts (T.take j) ++ Pk.text z.data.toList := by rw [hz, texts_snoc T j _, List.append_assoc]
            have h301 : ∀ s ∈ T.take (j + 1), s.size ≤ 300 := by
              intro s hs
              rw [List.take_succ_eq_append_getElem (by have := Hn1.out; omega)] at hs
              rcases List.mem_append.1 hs with hs | hs
              · exact H300.out s hs
              · simp at hs; rw [hs, ← hz]; omega
            have hle := texts_le (T.take j) H300.out
            have hle2 : (T.take j).length ≤ 10 := by simp; omega
            have hle4 : (N ++ texts (T.take j)).length ≤ 4000 := by rw [List.length_append]; omega
            obtain ⟨N1, hN1⟩ : ∃ N1, N1 = N ++ texts (T.take j) := ⟨_, rfl⟩
            rw [← hN1] at hs e1 hle4 ⊢
            have E1 := Lib.hid e1
            have HN1 := Lib.hid hN1
            have H301 := Lib.hid h301
            have Hp := Lib.hid (text_put A N1.length c N1 wr _ hs (by omega) z (by omega))
            clear hc hz e1 hN1 h301 hle hle2
            go_wp2_with fail
            refine Hp.out.mono ?_
            rintro e w2 ⟨A', c', rfl, ho, hk2⟩
            go_wp2
            go_roundw
            case rel =>
              refine ⟨j + 1, A', c', by omega, H301.out, by go_num, ?_, ?_, hkr.same hk2⟩
              · rw [E1.out]
                simp
              · rw [E1.out]
                exact ho.sl.imp fun _ _ _ => trivial
            case measure => simp [intOf]; omega
        · obtain rfl : n1 = j := by omega
          have hle := texts_le (T.take n1) H300.out
          have hle2 : (T.take n1).length ≤ 10 := by simp; omega
          rw [List.take_of_length_le (by have := Hn1.out; omega)] at hs hle H300 hle2 ⊢
          have hle4 : (N ++ texts T).length ≤ 4000 := by rw [List.length_append]; omega
          obtain ⟨N1, hN1⟩ : ∃ N1, N1 = N ++ texts T := ⟨_, rfl⟩
          rw [← hN1] at hs hle4 ⊢
          have HN1 := Lib.hid hN1
          clear hN1 hle hle2
          go_wp2_with (first | (at_builtin; refine held ?_) | (at_make; refine held ?_))
          refine unheld ?_
          refine wp_appB w.heap.size Try.underlying22 info_u8' rfl (by omega) (by have := hkr.size; simp; omega) ((Own.lit wr 5 1 #[] 0 rfl (by unfold maxLen; omega)).imp fun b _ h => by have := hkr.size; omega) (hs.alloc _) (bvs_one _) (by omega) (by omega) rfl _ _ rfl rfl rfl ?_
          intro v2 w2 ho2 hk2
          simp only [Nat.zero_add, List.nil_append] at ho2
          have hk3 : Pure w w2 := (hkr.alloc _).trans hk2 (fun i hi h => absurd h (by omega))
          go_wp2_with (first | (at_builtin; refine held ?_) | (at_make; refine held ?_))
          refine unheld ?_
          refine wp_appB w.heap.size Try.underlying22 info_u8' rfl (by omega) hk3.size ho2 (hm.kept hk3 fun _ _ _ h => h) (bvs_one _) (by omega) (by omega) rfl _ _ rfl rfl rfl ?_
          intro v4 w4 ho4 hk4
          have hk5 : Pure w w4 := hk3.trans hk4 (fun i hi h => absurd h (by omega))
          rw [← bvs_append] at ho4
          obtain ⟨A5, c5, rfl, _, _, _, hs5⟩ := ho4.form
          obtain ⟨D, hD⟩ : ∃ D, D = N1 ++ M := ⟨_, rfl⟩
          rw [← hD] at hs5
          have HD := Lib.hid hD
          clear hD ho4 hk4 hk3 ho2 hk2 hs
          go_wp2_with fail
          refine (read_any A5 _ c5 D w4 _ hs5 (by omega)).mono ?_
          rintro e w6 ⟨g, rfl, hrd, hk6⟩
          have hg : w.heap.size ≤ g := Nat.le_trans hk5.size hrd.1
          have hk7 : Pure w w6 := hk5.same hk6
          clear hs5 hk6
          go_wp2_with fail
          go_loopw [11] (fun i wr => ∃ j, j ≤ n0 ∧ i = .int .i64 (j : Nat) ∧ Rd wr (fun b => w4.heap.size ≤ b) g ⟨D, (nums (L.take j)).length, 0⟩ ∧ Pure w wr) (fun i _ => n0 - (intOf i).toNat)
          case atStart => exact ⟨0, Nat.zero_le _, rfl, by simpa [nums] using hrd, hk7⟩
          case round =>
            obtain ⟨j, hj, rfl, hrd, hkr⟩ := hrel
            clear hk7
            by_cases hjn : j < n0
            · have hl3 := hl.kept hkr fun _ _ _ h => h
              obtain ⟨b, o, rfl, _, hbw, hc⟩ := hl.2 (by omega)
              have hcj := hc j (by simp; have := Hn0.out; omega)
              rw [List.getElem?_map, List.getElem?_eq_getElem (by have := Hn0.out; omega)] at hcj
              simp only [Option.map_some] at hcj
              obtain ⟨z, hz⟩ : ∃ z, z = L[j]'(by have := Hn0.out; omega) := ⟨_, rfl⟩
              rw [← hz] at hcj
              have hz1 : z ≤ 9223372036854775807 := HL.out z (by rw [hz]; exact List.getElem_mem _)
              have hcz : ∀ w', Pure w w' → w'.cell? ⟨b, o + j, none⟩ = some (.int .i64 z) := fun w' hw' => (World.cell?_of_block (a := ⟨b, o + j, none⟩) (hw'.block b hbw (fun h => h))).trans hcj
              by_cases hz0 : 0 ≤ z
              · have e1 : Pk.St.num ⟨D, (nums (L.take j)).length, 0⟩ = (z, ⟨D, (nums (L.take (j + 1))).length, 0⟩) := by
                  have h1 : nums (L.take (j + 1)) = nums (L.take j) ++ Pk.num z := by rw [hz]; exact nums_snoc L j _
                  have h2 : D.drop (nums (L.take j)).length = Pk.num z ++ (nums (L.drop (j + 1)) ++ texts T ++ M) := by
                    have h3 : nums L = nums (L.take j) ++ (Pk.num z ++ nums (L.drop (j + 1))) := by
                      rw [← List.append_assoc, ← h1]
                      simp only [nums]
                      rw [← List.flatMap_append, List.take_append_drop]
                    rw [HD.out, HN1.out, HN.out, h3]
                    simp only [List.append_assoc, List.drop_left]
                  rw [Pk.num_read D _ z _ hz0 hz1 h2, h1, List.length_append]
                obtain ⟨s1, hs1⟩ : ∃ s1 : Pk.St, s1 = ⟨D, (nums (L.take (j + 1))).length, 0⟩ := ⟨_, rfl⟩
                have hcall := fun w' (h : Rd w' (fun b => w4.heap.size ≤ b) g ⟨D, (nums (L.take j)).length, 0⟩) => num_any w' _ g _ h
                rw [e1, ← hs1] at hcall
                have Hcall := Lib.hid hcall
                have Hs1 := Lib.hid hs1
                clear hcall hs1 e1 hc hz hl3
                go_wp2_with fail
                refine wp_region_mix (fun w' => Kept (· = g) wr w') [7] (by kernel_rfl) (by kernel_rfl) (by kernel_rfl) (Kept.refl _ _).drew ?_
                have hkd : Kept (· = g) wr wr.drew := (Kept.refl _ _).drew
                have hcy : ∀ w', Kept (· = g) wr w' → w'.cell? ⟨b, o + j, none⟩ = some (.int .i64 z) := fun w' hw' => hcz w' (hkr.trans hw' (by intro i hi e; omega))
                repeat (refine mix_step (fun K hK => ?_); go_simp; first | (refine ex_steady ?_ (fun w' hw' => ?_) ?_; rotate_left; (replace hw' : Kept (· = g) _ w' := hw'; go_simp; first | done | rfl); (refine hK _ _ ?_; clear hK K)) | (refine hK _ _ ?_; clear hK K))
                refine mix_call (by decide) (fun K hK => ?_)
                go_simp
                unfold move
                go_simp
                refine move_enter ((Hcall.out _ (hrd.kept ((Kept.refl (fun _ => False) _).drew) (fun _ _ _ h => h))).mono ?_)
                rintro e w8 ⟨rfl, hrd8, hk8⟩
                refine ⟨_, rfl, fun x => Kept (· = g) wr x, ⟨hkd.same hk8, by simp; exact hkd.same hk8⟩, hK _ _ _ ?_⟩
                clear hK K
                repeat (refine mix_step (fun K hK => ?_); go_simp; first | (refine ex_steady ?_ (fun w' hw' => ?_) ?_; rotate_left; (replace hw' : Kept (· = g) _ w' := hw'; go_simp; first | done | rfl); (refine hK _ _ ?_; clear hK K)) | (refine hK _ _ ?_; clear hK K))
                refine mix_nil ?_
                intro hw'
                go_wp2_with fail
                go_roundw
                case rel =>
                  rw [Hs1.out] at hrd8
                  exact ⟨j + 1, by omega, by go_num, hrd8, hkr.trans hw' (by intro i hi e; omega)⟩
                case measure => simp [intOf]; omega
              · have hneg : z < 0 := by omega
                have hdec : decide (0 ≤ z) = false := by simpa using hz0
                have hcw := hcz wr hkr
                have e1 : nums (L.take (j + 1)) = nums (L.take j) := by
                  have h1 : nums (L.take (j + 1)) = nums (L.take j) ++ Pk.num z := by rw [hz]; exact nums_snoc L j _
                  rw [h1, Pk.num, if_pos hneg, List.append_nil]
                have E1 := Lib.hid e1
                clear hc hz hl3 e1 hz0 hneg hcz hcj
                go_wp2_with fail
                go_quiet (fail)
                go_wp2_with fail
                go_roundw
                case rel =>
                  refine ⟨j + 1, by omega, by go_num, ?_, hkr.drewN _⟩
                  rw [E1.out]
                  exact hrd.kept (S := fun _ => False) ((Kept.refl _ _).drewN _) (fun _ _ _ h => h)
                case measure => simp [intOf]; omega
            · obtain rfl : n0 = j := by omega
              rw [List.take_of_length_le (by have := Hn0.out; omega), ← HN.out] at hrd
              clear hjn hj
              go_wp2_with fail
              go_loopw [12] (fun i wr => ∃ j, j ≤ n1 ∧ i = .int .i64 (j : Nat) ∧ Rd wr (fun b => w4.heap.size ≤ b) g ⟨D, (N ++ texts (T.take j)).length, 0⟩ ∧ Pure w wr) (fun i _ => n1 - (intOf i).toNat)
              case atStart => exact ⟨0, Nat.zero_le _, rfl, by simpa [texts] using hrd, hkr⟩
              case round =>
                obtain ⟨j, hj, rfl, hrd, hkr⟩ := hrel
                by_cases hjn : j < n1
                · obtain ⟨b, o, rfl, _, hbw, hc⟩ := ht.2 (by omega)
                  have hcj := hc j (by simp; have := Hn1.out; omega)
                  rw [List.getElem?_map, List.getElem?_eq_getElem (by have := Hn1.out; omega)] at hcj
                  simp only [Option.map_some] at hcj
                  obtain ⟨z, hz⟩ : ∃ z, z = T[j]'(by have := Hn1.out; omega) := ⟨_, rfl⟩
                  rw [← hz] at hcj
                  have hz3 : z.size ≤ 300 := H300.out z (by rw [hz]; exact List.getElem_mem _)
                  have hzl : z.data.toList.length = z.size := by rw [Array.length_toList]; rfl
                  have hcz : ∀ w', Pure w w' → w'.cell? ⟨b, o + j, none⟩ = some (.string z) := fun w' hw' => (World.cell?_of_block (a := ⟨b, o + j, none⟩) (hw'.block b hbw (fun h => h))).trans hcj
                  have e1 : Pk.St.text ⟨D, (N ++ texts (T.take j)).length, 0⟩ (z.size : Int) = (z.data.toList, ⟨D, (N ++ texts (T.take (j + 1))).length, 0⟩) := by
                    have h1 : texts (T.take (j + 1)) = texts (T.take j) ++ Pk.text z.data.toList := by rw [hz]; exact texts_snoc T j _
                    have h2 : D.drop (N ++ texts (T.take j)).length = Pk.text z.data.toList ++ (texts (T.drop (j + 1)) ++ M) := by
                      have h3 : texts T = texts (T.take j) ++ (Pk.text z.data.toList ++ texts (T.drop (j + 1))) := by
                        rw [← List.append_assoc, ← h1]
                        simp only [texts]
                        rw [← List.flatMap_append, List.take_append_drop]
                      rw [HD.out, HN1.out, h3]
                      rw [show N ++ (texts (T.take j) ++ (Pk.text z.data.toList ++ texts (T.drop (j + 1)))) ++ M = (N ++ texts (T.take j)) ++ (Pk.text z.data.toList ++ (texts (T.drop (j + 1)) ++ M)) from by simp only [List.append_assoc], List.drop_left]
                    rw [Pk.text_read D _ z.data.toList _ _ (by omega) (by omega) h2, h1, ← List.append_assoc, show (N ++ texts (T.take j) ++ Pk.text z.data.toList).length = (N ++ texts (T.take j)).length + (Pk.text z.data.toList).length from List.length_append ..]
                  obtain ⟨s1, hs1⟩ : ∃ s1 : Pk.St, s1 = ⟨D, (N ++ texts (T.take (j + 1))).length, 0⟩ := ⟨_, rfl⟩
                  have hcall := fun w' (h : Rd w' (fun b => w4.heap.size ≤ b) g ⟨D, (N ++ texts (T.take j)).length, 0⟩) => text_any w' _ g _ (z.size : Int) h
                  have hzz : (⟨z.data.toList.toArray⟩ : ByteArray) = z := by simp
                  rw [e1, ← hs1] at hcall
                  unfold TextPost at hcall
                  simp only [hzz] at hcall
                  have Hcall := Lib.hid hcall
                  have Hs1 := Lib.hid hs1
                  clear hcall hs1 e1 hc hz hzz hzl
                  go_wp2_with fail
                  refine wp_region_mix (fun w' => Kept (· = g) wr w') [6] (by kernel_rfl) (by kernel_rfl) (by kernel_rfl) (Kept.refl _ _).drew ?_
                  have hkd : Kept (· = g) wr wr.drew := (Kept.refl _ _).drew
                  have hcy : ∀ w', Kept (· = g) wr w' → w'.cell? ⟨b, o + j, none⟩ = some (.string z) := fun w' hw' => hcz w' (hkr.trans hw' (by intro i hi e; omega))
                  repeat (refine mix_step (fun K hK => ?_); go_simp; first | (refine ex_steady ?_ (fun w' hw' => ?_) ?_; rotate_left; (replace hw' : Kept (· = g) _ w' := hw'; go_simp; first | done | rfl); (refine hK _ _ ?_; clear hK K)) | (refine hK _ _ ?_; clear hK K))
                  refine mix_call (by decide) (fun K hK => ?_)
                  go_simp
                  unfold move
                  go_simp
                  refine move_enter ((Hcall.out _ (hrd.kept ((Kept.refl (fun _ => False) _).drew) (fun _ _ _ h => h))).mono ?_)
                  rintro e w8 ⟨rfl, hrd8, hk8⟩
                  refine ⟨_, rfl, fun x => Kept (· = g) wr x, ⟨hkd.same hk8, by simp; exact hkd.same hk8⟩, hK _ _ _ ?_⟩
                  clear hK K
                  repeat (refine mix_step (fun K hK => ?_); go_simp; first | (refine ex_steady ?_ (fun w' hw' => ?_) ?_; rotate_left; (replace hw' : Kept (· = g) _ w' := hw'; go_simp; first | done | rfl); (refine hK _ _ ?_; clear hK K)) | (refine hK _ _ ?_; clear hK K))
                  refine mix_nil ?_
                  intro hw'
                  go_wp2_with fail
                  go_roundw
                  case rel =>
                    rw [Hs1.out] at hrd8
                    exact ⟨j + 1, by omega, by go_num, hrd8, hkr.trans hw' (by intro i hi e; omega)⟩
                  case measure => simp [intOf]; omega
                · obtain rfl : n1 = j := by omega
                  rw [List.take_of_length_le (by have := Hn1.out; omega), ← HN1.out] at hrd
                  clear hjn hj
                  go_wp2_with fail
                  refine (err_any _ _ g _ hrd).mono ?_
                  rintro e w8 ⟨rfl, rfl⟩
                  go_wp2_with fail
                  refine (left_any _ _ g _ hrd).mono ?_
                  rintro e w8 ⟨rfl, nd, rfl⟩
                  have hleft : Pk.St.left ⟨D, N1.length, 0⟩ = (n2 : Int) := by
                    show ((D.length : Nat) : Int) - ((N1.length : Nat) : Int) = (n2 : Int)
                    have := Hn2.out
                    rw [HD.out, List.length_append]
                    omega
                  rw [hleft]
                  clear hleft
                  have hk9 := hkr.drewN nd
                  generalize wr.drewN nd = w9 at hk9 ⊢
                  clear hrd
                  by_cases hT0 : n1 = 0
                  · have hT0' : ((n1 : Int) == 0) = true := by simp; omega
                    go_wp2_with fail
                    refine (first10 w9).mono ?_
                    rintro e w10 ⟨rfl, hk10⟩
                    go_wp2
                    go_ret
                    exact ⟨rfl, hk9.same hk10⟩
                  · have hT0' : ((n1 : Int) == 0) = false := by simp; omega
                    have hT1 : (0 : Int) < (n1 : Int) := by omega
                    obtain ⟨b, o, rfl, _, hbw, hc⟩ := (ht.kept hk9 fun _ _ _ h => h).2 (by omega)
                    have hcj := hc 0 (by simp; have := Hn1.out; omega)
                    rw [List.getElem?_map, List.getElem?_eq_getElem (by have := Hn1.out; omega)] at hcj
                    simp only [Option.map_some, Nat.add_zero] at hcj
                    obtain ⟨z, hz⟩ : ∃ z, z = T[0]'(by have := Hn1.out; omega) := ⟨_, rfl⟩
                    rw [← hz] at hcj
                    have hz3 : z.size ≤ 300 := H300.out z (by rw [hz]; exact List.getElem_mem _)
                    have hzl : z.data.toList.length = z.size := by rw [Array.length_toList]; rfl
                    clear hc hz
                    have hp := text_put none 0 0 [] w9 (fun _ => False) (Sl.nil _ _ _ _) (by omega) z (by omega)
                    rw [List.nil_append] at hp
                    obtain ⟨X, hX⟩ : ∃ X, X = Pk.text z.data.toList := ⟨_, rfl⟩
                    rw [← hX] at hp
                    have hX1 : 0 < X.length := by
                      have := Pk.num_pos (z.data.toList.length : Int) (by omega)
                      rw [hX, Pk.text, List.length_append]; omega
                    have hX2 : X.length ≤ 400 := by
                      have := Pk.num_length_le (z.data.toList.length : Int)
                      rw [hX, Pk.text, List.length_append]; omega
                    have hcut := Pk.text_cut z.data.toList 400 (by omega)
                    rw [← hX] at hcut
                    have Hp := Lib.hid hp
                    have Hcut := Lib.hid hcut
                    clear hX hp hcut hzl
                    go_wp2_with fail
                    refine Hp.out.mono ?_
                    rintro e w10 ⟨A', c', rfl, ho, hk10⟩
                    obtain ⟨hcc1, hcc2⟩ := own_cap ho
                    unfold maxLen at hcc2
                    have hs10 := (ho.sl).pre (X.length - 1) (by omega)
                    rw [Nat.mul_one, ← bvs_take] at hs10
                    obtain ⟨Y, hY⟩ : ∃ Y, X.length = Y + 1 := ⟨X.length - 1, by omega⟩
                    rw [hY] at hs10 ho hcc1 hX1 hX2 ⊢
                    have HY := Lib.hid hY
                    clear hY
                    have hcc3 : Y ≤ c' := by omega
                    rw [Nat.add_sub_cancel] at hs10
                    go_wp2_with fail
                    refine (read_any A' Y c' (X.take Y) w10 _ hs10 (by omega)).mono ?_
                    rintro e w11 ⟨g2, rfl, hrd11, hk11⟩
                    have hcut := Hcut.out
                    rw [HY.out, Nat.add_sub_cancel] at hcut
                    have ht11 := text_any w11 _ g2 _ 400 hrd11
                    rw [hcut] at ht11
                    have Ht11 := Lib.hid ht11
                    have hk12 : Pure w w11 := (hk9.same hk10).same hk11
                    have hg2 : w.heap.size ≤ g2 := Nat.le_trans (hk9.same hk10).size hrd11.1
                    clear hcut ht11 hrd11 hk11 hk10 hk9 hs10
                    go_wp2_with fail
                    refine Ht11.out.mono ?_
                    rintro e w12 ⟨rfl, hrd12, hk13⟩
                    go_wp2_with fail
                    refine (err_any _ _ g2 _ hrd12).mono ?_
                    rintro e w13 ⟨rfl, rfl⟩
                    go_wp2
                    go_ret
                    exact ⟨rfl, hk12.trans hk13 (by intro i hi e; omega)⟩

set_option maxHeartbeats 800000 in
theorem back_far (A0 A1 A2 : Option Addr) (n0 n1 n2 c0 c1 c2 : Nat) (w : World) (h : 20 < n0 ∨ 10 < n1 ∨ 20 < n2) :
    Calls Try.prog 5 #[.slice A0 n0 c0, .slice A1 n1 c1, .slice A2 n2 c2] w (TrueP w) := by
  by_cases h1 : 20 < n0
  · have h1' : (20 : Int) < (n0 : Int) := by omega
    clear h
    go_enter Try.func5, Try.ntmps5
    go_wp2_with fail
    refine (first10 w).mono ?_
    rintro e w1 ⟨rfl, hk1⟩
    go_wp2_with fail
    refine (first10 w1).mono ?_
    rintro e w2 ⟨rfl, hk2⟩
    go_wp2
    go_ret
    exact ⟨rfl, hk1.same hk2⟩
  · have h1' : ((20 : Int) < (n0 : Int)) = False := by simp; omega
    by_cases h2 : 10 < n1
    · have h2' : (10 : Int) < (n1 : Int) := by omega
      clear h h1
      go_enter Try.func5, Try.ntmps5
      go_wp2_with fail
      refine (first10 w).mono ?_
      rintro e w1 ⟨rfl, hk1⟩
      go_wp2_with fail
      refine (first10 w1).mono ?_
      rintro e w2 ⟨rfl, hk2⟩
      go_wp2
      go_ret
      exact ⟨rfl, hk1.same hk2⟩
    · have h2' : ((10 : Int) < (n1 : Int)) = False := by simp; omega
      have h3' : (20 : Int) < (n2 : Int) := by omega
      clear h h1 h2
      go_enter Try.func5, Try.ntmps5
      go_wp2_with fail
      refine (first10 w).mono ?_
      rintro e w1 ⟨rfl, hk1⟩
      go_wp2_with fail
      refine (first10 w1).mono ?_
      rintro e w2 ⟨rfl, hk2⟩
      go_wp2
      go_ret
      exact ⟨rfl, hk1.same hk2⟩

theorem packBack_top (a0 : Option Addr) (len0 cap0 : Nat) (z0 : List Int) (a1 : Option Addr) (len1 cap1 : Nat) (z1 : List ByteArray) (a2 : Option Addr) (len2 cap2 : Nat) (z2 : List Int) (w : World)
    (h0 : IsRow .i64 w a0 len0 cap0 z0) (h1 : IsStrs w a1 len1 cap1 z1) (h2 : IsRow .u8 w a2 len2 cap2 z2) :
    Calls Try.prog 5 #[.slice a0 len0 cap0, .slice a1 len1 cap1, .slice a2 len2 cap2] w (TrueP w) := by
  obtain ⟨_, _, _, hw0, hs0⟩ := h0.ints
  obtain ⟨_, _, _, hs1⟩ := h1.strs
  obtain ⟨l, _, _, _, hs2⟩ := h2.bytes
  by_cases hfar : 20 < len0 ∨ 10 < len1 ∨ 20 < len2
  · exact back_far a0 a1 a2 len0 len1 len2 cap0 cap1 cap2 w hfar
  · exact back_walk a0 a1 a2 len0 len1 len2 cap0 cap1 cap2 _ _ l w hs0 hs1 hs2 (by omega) (by omega) (by omega) (fun z hz => (bounds_i64 (hw0 z hz)).2)
end Go.Proofs.Ytlmfpadlgdmflaa
