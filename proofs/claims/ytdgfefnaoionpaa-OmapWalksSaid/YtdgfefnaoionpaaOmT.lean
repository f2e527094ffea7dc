/-
  Digits.
-/
import Derived.Test.YtdgfefnaoionpaaStr
import Derived.Test.YtdgfefnaoionpaaBlk
import Derived.Test.YtdgfefnaoionpaaRows
import Derived.LoopTactic
import Derived.WideShapes
set_option linter.unusedSimpArgs false
set_option linter.unusedVariables false
namespace Go.Proofs.Ytdgfefnaoionpaa
open Go.RowKit
set_option maxRecDepth 100000
theorem app_data (a b : ByteArray) : (a ++ b).data.toList = a.data.toList ++ b.data.toList := by simp
def digs (n : Nat) : List UInt8 := if h : n < 10 then [UInt8.ofNat (48 + n)] else digs (n / 10) ++ [UInt8.ofNat (48 + n % 10)]
termination_by n
decreasing_by omega
theorem digs_step (n : Nat) (h : ¬ n / 10 = 0) : digs n = digs (n / 10) ++ [UInt8.ofNat (48 + n % 10)] := by
  rw [digs, dif_neg (by omega)]
theorem digs_end (n : Nat) (h : n / 10 = 0) : digs n = [UInt8.ofNat (48 + n % 10)] := by
  rw [digs, dif_pos (by omega), Nat.mod_eq_of_lt (by omega)]
theorem pow_next {m k : Nat} (hk : k ≤ 8) (h : m < 10 ^ (9 - k)) (h0 : ¬ m / 10 = 0) : k + 1 ≤ 8 ∧ m / 10 < 10 ^ (9 - (k + 1)) := by
  have e : 10 ^ (9 - k) = 10 * 10 ^ (9 - (k + 1)) := by
    rw [show 9 - k = (9 - (k + 1)) + 1 by omega, Nat.pow_succ, Nat.mul_comm]
  rw [e] at h
  refine ⟨?_, by omega⟩
  rcases Nat.lt_or_ge k 8 with h8 | h8
  · omega
  · have : k = 8 := by omega
    subst this
    simp at h
    omega

set_option maxHeartbeats 1600000 in
theorem digits_any (n : Nat) (w : World) (hn : n < 1000000000) : Calls Try.prog 24 #[.int .i64 n] w fun e w' => e = .returned (.string ⟨(digs n).toArray⟩) ∧ Pure w w' := by
  go_enter Try.func24, Try.ntmps24
  go_wp2
  go_loopw [0, 3, 4] (fun v s i wr => ∃ (m k : Nat) (S : ByteArray), v = .int .i64 m ∧ s = .string S ∧ i = .int .i64 k ∧ k ≤ 8 ∧ Hid (m < 10 ^ (9 - k)) ∧ m < 1000000000 ∧ S.size = k ∧ Hid (digs m ++ S.data.toList = digs n) ∧ Pure w wr) (fun _ _ i _ => 9 - (intOf i).toNat)
  case atStart => exact ⟨n, 0, _, rfl, rfl, rfl, by omega, hn, hn, rfl, by simp [Hid], Kept.refl _ _⟩
  case round =>
    obtain ⟨m, k, S, rfl, rfl, rfl, hk, hm, hm9, hS, hd, hp⟩ := hrel
    obtain ⟨x, hx⟩ : ∃ x, UInt8.ofNat (48 + m % 10) = x := ⟨_, rfl⟩
    have hxn : x.toNat = 48 + m % 10 := by rw [← hx, UInt8.toNat_ofNat']; omega
    have hcs : ∀ wr : World, (convert 70 9 (.slice (some ⟨wr.heap.size, 0, none⟩) 1 1)).run Try.prog (wr.alloc (.cells #[.int .u8 (48 + (m : Int) % 10)] 5)) = .ok (.string ⟨#[x]⟩) (wr.alloc (.cells #[.int .u8 (48 + (m : Int) % 10)] 5)) := fun wr => by
      have := run_str (P := Try.prog) (l := [x]) (Sl.one wr (.int .u8 (48 + (m : Int) % 10)) 5 |> fun h => by
        have e : bvs [x] = [.int .u8 (48 + (m : Int) % 10)] := by
          simp [bvs, bv]; omega
        rw [e]; exact h) 70 9 5 1 Try.underlying70 Try.underlying5 Try.underlying9
      exact this
    have z1 : (⟨#[x]⟩ : ByteArray).size = 1 := rfl
    have hsz : ((⟨#[x]⟩ : ByteArray) ++ S).size = k + 1 := by rw [ByteArray.size_append]; omega
    have g1 : ((9223372036854775807 : Int) < (((⟨#[x]⟩ : ByteArray) ++ S).size : Int)) = False := eq_false (by omega)
    have g1' : (9223372036854775807 < 1 + S.size) = False := eq_false (by omega)
    have Hsz := Lib.hid hsz
    have hp2 := Lib.hid (hp.alloc (.cells #[.int .u8 (48 + (m : Int) % 10)] 5))
    by_cases h0 : m / 10 = 0
    · have h0' : ((m : Int) / 10 == 0) = true := by simp; omega
      have e : digs n = [x] ++ S.data.toList := by rw [← hd.out, digs_end m h0, hx]
      have He := Lib.hid e
      clear hx hxn e h0 hsz hS z1
      go_wp2_with (first | (simp only [hcs]))
      go_ret
      refine ⟨?_, hp2.out⟩
      rw [He.out, show (⟨#[x]⟩ : ByteArray) ++ S = ⟨([x] ++ S.data.toList).toArray⟩ from Go.WideShapes.bytes_inj (by rw [app_data])]
      rfl
    · have h0' : ((m : Int) / 10 == 0) = false := by simp; omega
      have hst := digs_step m h0
      rw [hx] at hst
      have Hd : Hid (digs (m / 10) ++ ((⟨#[x]⟩ : ByteArray) ++ S).data.toList = digs n) := by
        rw [Hid, app_data, ← hd.out, hst, List.append_assoc]
      have hpn := pow_next hk hm.out h0
      have Hpn := Lib.hid hpn
      have hk9 : k < 8 := by omega
      clear hx hxn h0 hst hsz hS z1 hpn
      go_wp2_with (first | (simp only [hcs]))
      go_roundw
      case measure => first | omega | (simp [intOf]; omega)
      case rel => exact ⟨m / 10, k + 1, _, rfl, rfl, by first | rfl | go_num, Hpn.out.1, Hpn.out.2, by omega, Hsz.out, Hd, hp2.out⟩
end Go.Proofs.Ytdgfefnaoionpaa
