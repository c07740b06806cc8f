/- The contract of disk.name. -/
import Derived.Test.YtebkgkaihjoamaaMaps
namespace Go.Proofs.Ytebkgkaihjoamaa
open Go.RowKit Go.Proofs

def charOk (c : UInt8) : Bool := decide ((97 ≤ c.toNat ∧ c.toNat ≤ 122) ∨ (48 ≤ c.toNat ∧ c.toNat ≤ 57) ∨ c.toNat = 46)
/-- may a text be a name? -/
def nameOk (s : ByteArray) : Bool := decide (1 ≤ s.size) && decide (s.size ≤ 20) && s.data.toList.all charOk
theorem name_bad (s : ByteArray) (k : Nat) (h : k < s.size) (hc : charOk s[k] = false) : nameOk s = false := by
  have : s.data.toList.all charOk = false := by
    rw [List.all_eq_false]
    exact ⟨s[k], by simp [ByteArray.getElem_eq_getElem_data], by simp [hc]⟩
  unfold nameOk
  rw [this, Bool.and_false]
theorem name_step (s : ByteArray) (k : Nat) (h : k < s.size) (hc : charOk s[k] = true) (hall : (s.data.toList.take k).all charOk = true) : (s.data.toList.take (k + 1)).all charOk = true := by
  rw [List.take_succ_eq_append_getElem (by simpa using h), List.all_append, hall]
  simpa [ByteArray.getElem_eq_getElem_data] using hc

theorem name_any (s : ByteArray) (hs : s.size ≤ maxLen) (w : World) : Calls Try.prog 32 #[.string s] w fun e w' => e = .returned (.bool (nameOk s)) ∧ w = w' := by
  unfold maxLen at hs
  by_cases h1 : s.size < 1
  · have HN : Hid (nameOk s = false) := by unfold nameOk; rw [decide_eq_false (by omega : ¬ 1 ≤ s.size)]; rfl
    go_enter Try.func32, Try.ntmps32
    go_wp2
    go_ret
    exact ⟨by rw [HN.out]; rfl, rfl⟩
  · by_cases h2 : 20 < s.size
    · have HN : Hid (nameOk s = false) := by unfold nameOk; rw [decide_eq_false (by omega : ¬ s.size ≤ 20), Bool.and_false]; rfl
      go_enter Try.func32, Try.ntmps32
      go_wp2
      go_ret
      exact ⟨by rw [HN.out]; rfl, rfl⟩
    · have HB := Lib.hid (name_bad s)
      have HS := Lib.hid (name_step s)
      have HE : Hid ((s.data.toList.take s.size).all charOk = true → nameOk s = true) := fun h => by
        unfold nameOk
        rw [List.take_of_length_le (by simp)] at h
        rw [h, decide_eq_true (by omega : 1 ≤ s.size), decide_eq_true (by omega : s.size ≤ 20)]; rfl
      go_enter Try.func32, Try.ntmps32
      go_wp2
      go_loop [15] (fun i => ∃ k : Nat, k ≤ s.size ∧ i = .int .i64 k ∧ (s.data.toList.take k).all charOk = true) (fun i => s.size - (intOf i).toNat)
      case atStart => exact ⟨0, Nat.zero_le _, rfl, rfl⟩
      case round =>
        obtain ⟨k, hk, rfl, hall⟩ := hrel
        have HA := Lib.hid hall
        clear hall
        by_cases hlt : k < s.size
        · go_wp2
          all_goals first
            | (go_round
               case rel => exact ⟨k + 1, by omega, by go_num, HS.out k hlt (by unfold charOk; rw [decide_eq_true_iff]; (try simp only [bne_eq_false_iff_eq] at *); omega) HA.out⟩
               case measure => simp [intOf]; omega)
            | (go_ret
               exact ⟨by rw [HB.out k hlt (by unfold charOk; rw [decide_eq_false_iff_not]; (try simp only [bne_iff_ne, ne_eq] at *); omega)]; rfl, rfl⟩)
        · obtain rfl : k = s.size := by omega
          go_wp2
          go_ret
          exact ⟨by rw [HE.out HA.out]; rfl, rfl⟩
end Go.Proofs.Ytebkgkaihjoamaa
