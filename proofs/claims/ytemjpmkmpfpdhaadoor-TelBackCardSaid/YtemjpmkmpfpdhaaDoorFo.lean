/-
  The walks of Fold and Less, the program's and the reference's.
-/
import Derived.Test.YtemjpmkmpfpdhaaDoorFoP
import Derived.Test.YtemjpmkmpfpdhaaDoorBlk
import Derived.Test.YtemjpmkmpfpdhaaDoorProg
import Derived.Lib.ConvBytes
set_option linter.unusedSimpArgs false
set_option linter.unusedVariables false
namespace Go.Proofs.YtemjpmkmpfpdhaaDoor
open Go.RowKit
set_option maxRecDepth 100000

/-- A row of bytes that may be stored into. -/
structure Bs (w : World) (g : Nat) (l : List UInt8) : Prop where
  lt : g < w.heap.size
  cell : ∀ j b, l[j]? = some b → w.cell? ⟨g, j, none⟩ = some (.int .u8 (b.toNat : Int))
  frz : ∀ j, j < l.length → w.frozen? ⟨g, j, none⟩ = false
theorem Bs.set {w : World} {g : Nat} {l : List UInt8} (h : Bs w g l) (k : Nat) (b : UInt8) : Bs (w.setCell ⟨g, k, none⟩ (.int .u8 (b.toNat : Int))) g (l.set k b) := by
  refine ⟨by simpa using h.lt, fun j c hj => ?_, fun j hj => by simpa using h.frz j (by simpa using hj)⟩
  rw [List.getElem?_set] at hj
  by_cases hk : k = j
  · subst hk
    rw [if_pos rfl] at hj
    by_cases hl : k < l.length
    · rw [if_pos hl] at hj
      injection hj with hj
      subst hj
      exact World.cell?_setCell_same _ _ _ (h.cell k _ (List.getElem?_eq_getElem hl))
    · rw [if_neg hl] at hj; cases hj
  · rw [if_neg hk] at hj
    rw [World.cell?_setCell_other _ _ _ _ (by intro e; injection e with e1 e2 e3; exact hk e2)]
    exact h.cell j c hj
theorem Bs.sl {w : World} {g : Nat} {l : List UInt8} (h : Bs w g l) : Sl w (fun b => b = g) 1 (some ⟨g, 0, none⟩) l.length (bvs l) :=
  ⟨by simp, fun _ => ⟨g, 0, rfl, rfl, h.lt, fun j hj => by
    rw [bvs_length] at hj
    rw [Nat.zero_add, h.cell j _ (List.getElem?_eq_getElem hj), bvs_at _ _ hj]⟩⟩
theorem Bs.new (w : World) (e : TypeId) (s : ByteArray) : Bs (Lib.bytesWorld w e s) w.heap.size s.data.toList := by
  refine ⟨by rw [Lib.bytesWorld_size]; omega, fun j b hj => ?_, fun j hj => ?_⟩
  · have hl := (List.getElem?_eq_some_iff.1 hj).1
    rw [Lib.bytesWorld_cell w e s j (by simpa using hl), List.getD, hj]
    rfl
  · have hsz : s.size ≤ (Lib.bytesCells w e s).size := by simp [Lib.bytesCells]
    have hj' : j < s.size := by simpa using hj
    simp [World.frozen?, Lib.bytesWorld_at_new]
    omega
theorem pure_bytes (w : World) (e : TypeId) (s : ByteArray) : Pure w (Lib.bytesWorld w e s) :=
  ⟨rfl, rfl, rfl, by rw [Lib.bytesWorld_size]; omega, fun k hk _ => Lib.bytesWorld_at_old w e s k hk⟩

theorem set_same {α : Type} (l : List α) (k : Nat) (b : α) (h : l[k]? = some b) : l.set k b = l := by
  obtain ⟨h1, h2⟩ := List.getElem?_eq_some_iff.1 h
  rw [← h2]; exact List.set_getElem_self h1

set_option maxHeartbeats 800000 in
theorem fold_any (s : ByteArray) (w : World) (hs : s.size ≤ 1000) :
    Calls Tryd.prog 13 #[.string s] w fun e w' => e = .returned (.string ⟨(foldL s.data.toList).toArray⟩) ∧ Pure w w' := by
  have hcv := Lib.run_convert_string_bytes (P := Tryd.prog) w 9 36 5 s (u := .string) Tryd.underlying9 Tryd.underlying36 Tryd.underlying5
  have hB := Bs.new w 5 s
  have hp := pure_bytes w 5 s
  generalize Lib.bytesWorld w 5 s = W at hcv hB hp
  generalize grownCap w s.size 0 5 = c at hcv
  have hn : s.data.toList.length = s.size := by simp
  generalize hl : s.data.toList = l at hB hn ⊢
  clear hl
  go_enter Tryd.func13, Tryd.ntmps13
  go_wp2_with (simp only [hcv])
  clear hcv
  go_loopw [10] (fun i wr => ∃ k : Nat, i = .int .i64 k ∧ k ≤ s.size ∧ Bs wr w.heap.size (foldTo k l) ∧ Pure w wr) (fun i _ => s.size - (intOf i).toNat)
  case atStart => exact ⟨0, rfl, Nat.zero_le _, by rw [foldTo_zero]; exact hB, hp⟩
  case round =>
    obtain ⟨k, rfl, hk, hb, hkp⟩ := hrel
    by_cases hlt : k < s.size
    · obtain ⟨b, hg⟩ : ∃ b, l[k]? = some b := ⟨_, List.getElem?_eq_getElem (by omega)⟩
      have hc := hb.cell k b ((foldTo_at l k).trans hg)
      have hf := hb.frz k (by rw [foldTo_length]; omega)
      have hn1 := foldTo_succ l k b hg
      have hst := fun c => hb.set k c
      have hks := fun v => hkp.setCell (p := ⟨w.heap.size, k, none⟩) (.inr (Nat.le_refl _)) v
      have hb256 : b.toNat < 256 := b.toNat_lt
      by_cases hup : 65 ≤ b.toNat ∧ b.toNat ≤ 90
      · obtain ⟨h1, h2⟩ := hup
        have he := (foldB_up b h1 h2).2
        have hst := hst (foldB b)
        rw [he, ← hn1] at hst
        have Hst := Lib.hid hst
        have Hks := Lib.hid hks
        have He := Lib.hid hn1
        clear hst hks hn1 he hb hkp hg
        go_wp2
        refine ⟨⟨k + 1, by first | rfl | go_num, hlt, ?_, ?_⟩, by first | omega | (simp [intOf]; omega) | (simp only [intOf]; omega)⟩
        · simpa using Hst.out
        · simpa using Hks.out _
      · have he := foldB_no b hup
        have h3 : foldTo (k + 1) l = foldTo k l := by rw [hn1, he]; exact set_same _ _ _ ((foldTo_at l k).trans hg)
        rw [← h3] at hb
        have Hb := Lib.hid hb
        have Hk := Lib.hid hkp
        have He := Lib.hid hn1
        have He2 := Lib.hid he
        have He3 := Lib.hid h3
        clear hn1 he h3 hb hkp hg hst hks
        by_cases h1 : 65 ≤ b.toNat
        · have h2 : ¬ b.toNat ≤ 90 := fun h => hup ⟨h1, h⟩
          clear hup
          go_wp2
          exact ⟨⟨k + 1, by first | rfl | go_num, hlt, Hb.out, Hk.out⟩, by first | omega | (simp [intOf]; omega) | (simp only [intOf]; omega)⟩
        · clear hup
          go_wp2
          exact ⟨⟨k + 1, by first | rfl | go_num, hlt, Hb.out, Hk.out⟩, by first | omega | (simp [intOf]; omega) | (simp only [intOf]; omega)⟩
    · have hke : k = s.size := by omega
      subst hke
      have hfa : foldTo s.size l = foldL l := by rw [← hn]; exact foldTo_all l
      rw [hfa] at hb
      have hsl := hb.sl
      rw [foldL_length, hn] at hsl
      have hcs := run_str (P := Tryd.prog) hsl 36 9 5 c Tryd.underlying36 Tryd.underlying5 Tryd.underlying9
      have Hk := Lib.hid hkp
      clear hb hkp hsl hfa
      go_wp2_with (simp only [hcs])
      go_ret
      exact ⟨rfl, Hk.out⟩

theorem up_any (b : UInt8) (w : World) : Calls Tryd.prog 31 #[.int .u8 (b.toNat : Int)] w fun e w' => e = .returned (.bool (decide (65 ≤ b.toNat ∧ b.toNat ≤ 90))) ∧ w = w' := by
  have hb256 : b.toNat < 256 := b.toNat_lt
  by_cases h1 : 65 ≤ b.toNat
  · by_cases h2 : b.toNat ≤ 90
    · go_enter Tryd.func31, Tryd.ntmps31
      go_wp2
      go_ret
      exact ⟨by rw [show decide (65 ≤ b.toNat ∧ b.toNat ≤ 90) = decide ((b.toNat : Int) ≤ 90) from decide_eq_decide.2 (by omega)]; rfl, rfl⟩
    · go_enter Tryd.func31, Tryd.ntmps31
      go_wp2
      go_ret
      exact ⟨by rw [show decide (65 ≤ b.toNat ∧ b.toNat ≤ 90) = decide ((b.toNat : Int) ≤ 90) from decide_eq_decide.2 (by omega)]; rfl, rfl⟩
  · go_enter Tryd.func31, Tryd.ntmps31
    go_wp2
    go_ret
    exact ⟨by simp [h1], rfl⟩

set_option maxHeartbeats 800000 in
theorem ref_fold (s : ByteArray) (w : World) (hs : s.size ≤ 1000) :
    Calls Tryd.prog 14 #[.string s] w fun e w' => e = .returned (.string ⟨(foldL s.data.toList).toArray⟩) ∧ Pure w w' := by
  have hcv := Lib.run_convert_string_bytes (P := Tryd.prog) w 9 36 5 s (u := .string) Tryd.underlying9 Tryd.underlying36 Tryd.underlying5
  have hB := Bs.new w 5 s
  have hp := pure_bytes w 5 s
  generalize Lib.bytesWorld w 5 s = W at hcv hB hp
  generalize grownCap w s.size 0 5 = c at hcv
  have hn : s.data.toList.length = s.size := by simp
  generalize hl : s.data.toList = l at hB hn ⊢
  clear hl
  go_enter Tryd.func14, Tryd.ntmps14
  go_wp2_with (simp only [hcv])
  clear hcv
  go_loopw [4] (fun i wr => ∃ k : Nat, i = .int .i64 k ∧ k ≤ s.size ∧ Bs wr w.heap.size (foldTo k l) ∧ Pure w wr) (fun i _ => s.size - (intOf i).toNat)
  case atStart => exact ⟨0, rfl, Nat.zero_le _, by rw [foldTo_zero]; exact hB, hp⟩
  case round =>
    have hu := fun b w => up_any b w
    obtain ⟨k, rfl, hk, hb, hkp⟩ := hrel
    by_cases hlt : k < s.size
    · obtain ⟨b, hg⟩ : ∃ b, l[k]? = some b := ⟨_, List.getElem?_eq_getElem (by omega)⟩
      have hc := hb.cell k b ((foldTo_at l k).trans hg)
      have hf := hb.frz k (by rw [foldTo_length]; omega)
      have hn1 := foldTo_succ l k b hg
      have hst := fun c => hb.set k c
      have hks := fun v => hkp.setCell (p := ⟨w.heap.size, k, none⟩) (.inr (Nat.le_refl _)) v
      have hb256 : b.toNat < 256 := b.toNat_lt
      by_cases hup : 65 ≤ b.toNat ∧ b.toNat ≤ 90
      · obtain ⟨h1, h2⟩ := hup
        have he := (foldB_up b h1 h2).2
        have hst := hst (foldB b)
        rw [he, ← hn1] at hst
        have Hst := Lib.hid hst
        have Hks := Lib.hid hks
        have He := Lib.hid hn1
        clear hst hks hn1 he hb hkp hg
        go_wp2_with (go_at_call 31; refine (hu b wr).mono ?_; rintro e w' ⟨rfl, rfl⟩)
        refine ⟨⟨k + 1, by first | rfl | go_num, hlt, ?_, ?_⟩, by first | omega | (simp [intOf]; omega) | (simp only [intOf]; omega)⟩
        · simpa using Hst.out
        · simpa using Hks.out _
      · have he := foldB_no b hup
        have h3 : foldTo (k + 1) l = foldTo k l := by rw [hn1, he]; exact set_same _ _ _ ((foldTo_at l k).trans hg)
        rw [← h3] at hb
        have Hb := Lib.hid hb
        have Hk := Lib.hid hkp
        have He := Lib.hid hn1
        have He2 := Lib.hid he
        have He3 := Lib.hid h3
        clear hn1 he h3 hb hkp hg hst hks
        by_cases h1 : 65 ≤ b.toNat
        · have h2 : ¬ b.toNat ≤ 90 := fun h => hup ⟨h1, h⟩
          clear hup
          go_wp2_with (go_at_call 31; refine (hu b wr).mono ?_; rintro e w' ⟨rfl, rfl⟩)
          exact ⟨⟨k + 1, by first | rfl | go_num, hlt, Hb.out, Hk.out⟩, by first | omega | (simp [intOf]; omega) | (simp only [intOf]; omega)⟩
        · clear hup
          go_wp2_with (go_at_call 31; refine (hu b wr).mono ?_; rintro e w' ⟨rfl, rfl⟩)
          exact ⟨⟨k + 1, by first | rfl | go_num, hlt, Hb.out, Hk.out⟩, by first | omega | (simp [intOf]; omega) | (simp only [intOf]; omega)⟩
    · have hke : k = s.size := by omega
      subst hke
      have hfa : foldTo s.size l = foldL l := by rw [← hn]; exact foldTo_all l
      rw [hfa] at hb
      have hsl := hb.sl
      rw [foldL_length, hn] at hsl
      have hcs := run_str (P := Tryd.prog) hsl 36 9 5 c Tryd.underlying36 Tryd.underlying5 Tryd.underlying9
      have Hk := Lib.hid hkp
      clear hb hkp hsl hfa
      go_wp2_with (simp only [hcs])
      go_ret
      exact ⟨rfl, Hk.out⟩

theorem less_irrefl : ∀ l : List UInt8, Op.bytesLess l l = false
  | [] => rfl
  | a :: t => by simp [Op.bytesLess, less_irrefl t]
set_option maxHeartbeats 800000 in
theorem less_any (a b : ByteArray) (w : World) (ha : a.size ≤ 1000) (hb : b.size ≤ 1000) :
    Calls Tryd.prog 15 #[.string a, .string b] w fun e w' => e = .returned (.bool (lessL a.data.toList b.data.toList)) ∧ Pure w w' := by
  have h1 := Lib.hid (fold_any a w ha)
  have h2 := Lib.hid (fun w => fold_any b w hb)
  by_cases he : foldL a.data.toList = foldL b.data.toList
  · have hl : lessL a.data.toList b.data.toList = Op.bytesLess a.toList b.toList := by simp [lessL, he, Lib.toList_data]
    rw [hl]
    rw [he] at h1
    have hn : (!foldL b.data.toList == foldL b.data.toList) = false := by simp
    have hi := less_irrefl (foldL b.data.toList)
    clear hl he
    go_enter Tryd.func15, Tryd.ntmps15
    go_wp2_with fail
    refine (h1.out).mono ?_
    rintro e w1 ⟨rfl, hk1⟩
    go_wp2_with fail
    refine (h2.out w1).mono ?_
    rintro e w2 ⟨rfl, hk2⟩
    go_wp2
    go_ret
    exact ⟨rfl, hk1.same hk2⟩
  · have hl : lessL a.data.toList b.data.toList = Op.bytesLess (foldL a.data.toList) (foldL b.data.toList) := by simp [lessL, he]
    rw [hl]
    have hn : (!foldL a.data.toList == foldL b.data.toList) = true := by simpa using he
    have hn2 : (foldL a.data.toList == foldL b.data.toList) = false := by simpa using he
    clear hl he
    rcases hb2 : Op.bytesLess (foldL a.data.toList) (foldL b.data.toList) with _ | _
    · go_enter Tryd.func15, Tryd.ntmps15
      go_wp2_with fail
      refine (h1.out).mono ?_
      rintro e w1 ⟨rfl, hk1⟩
      go_wp2_with fail
      refine (h2.out w1).mono ?_
      rintro e w2 ⟨rfl, hk2⟩
      go_wp2
      go_ret
      exact ⟨by first | rfl | rw [hb2], hk1.same hk2⟩
    · go_enter Tryd.func15, Tryd.ntmps15
      go_wp2_with fail
      refine (h1.out).mono ?_
      rintro e w1 ⟨rfl, hk1⟩
      go_wp2_with fail
      refine (h2.out w1).mono ?_
      rintro e w2 ⟨rfl, hk2⟩
      go_wp2
      go_ret
      exact ⟨by first | rfl | rw [hb2], hk1.same hk2⟩
set_option maxHeartbeats 800000 in
theorem ref_less (a b : ByteArray) (w : World) (ha : a.size ≤ 1000) (hb : b.size ≤ 1000) :
    Calls Tryd.prog 16 #[.string a, .string b] w fun e w' => e = .returned (.bool (lessL a.data.toList b.data.toList)) ∧ Pure w w' := by
  have h1 := Lib.hid (ref_fold a w ha)
  have h2 := Lib.hid (fun w => ref_fold b w hb)
  by_cases he : foldL a.data.toList = foldL b.data.toList
  · have hl : lessL a.data.toList b.data.toList = Op.bytesLess a.toList b.toList := by simp [lessL, he, Lib.toList_data]
    rw [hl]
    rw [he] at h1
    have hn : (!foldL b.data.toList == foldL b.data.toList) = false := by simp
    have hi := less_irrefl (foldL b.data.toList)
    clear hl he
    go_enter Tryd.func16, Tryd.ntmps16
    go_wp2_with fail
    refine (h1.out).mono ?_
    rintro e w1 ⟨rfl, hk1⟩
    go_wp2_with fail
    refine (h2.out w1).mono ?_
    rintro e w2 ⟨rfl, hk2⟩
    go_wp2
    go_ret
    exact ⟨rfl, hk1.same hk2⟩
  · have hl : lessL a.data.toList b.data.toList = Op.bytesLess (foldL a.data.toList) (foldL b.data.toList) := by simp [lessL, he]
    rw [hl]
    have hn : (!foldL a.data.toList == foldL b.data.toList) = true := by simpa using he
    have hn2 : (foldL a.data.toList == foldL b.data.toList) = false := by simpa using he
    clear hl he
    rcases hb2 : Op.bytesLess (foldL a.data.toList) (foldL b.data.toList) with _ | _
    · go_enter Tryd.func16, Tryd.ntmps16
      go_wp2_with fail
      refine (h1.out).mono ?_
      rintro e w1 ⟨rfl, hk1⟩
      go_wp2_with fail
      refine (h2.out w1).mono ?_
      rintro e w2 ⟨rfl, hk2⟩
      go_wp2
      go_ret
      exact ⟨by first | rfl | rw [hb2], hk1.same hk2⟩
    · go_enter Tryd.func16, Tryd.ntmps16
      go_wp2_with fail
      refine (h1.out).mono ?_
      rintro e w1 ⟨rfl, hk1⟩
      go_wp2_with fail
      refine (h2.out w1).mono ?_
      rintro e w2 ⟨rfl, hk2⟩
      go_wp2
      go_ret
      exact ⟨by first | rfl | rw [hb2], hk1.same hk2⟩
end Go.Proofs.YtemjpmkmpfpdhaaDoor
