/- Contracts of bits.Vec's readers: Rank, Zeros, Get, Len tell of the bits what the document says, and write nothing. -/
import Derived.Test.YtekpjfbhhfcjnaaOnes
import Derived.Test.YtekpjfbhhfcjnaaBits
import Derived.WalkKit
import Derived.WalkLawsBesides
import Derived.BigQuiet
import Derived.Lib.Hide
namespace Go.Proofs.Ytekpjfbhhfcjnaa
open Go.RowKit Go.Proofs

/-- block b holds a Vec of the bits bs: its words lie in block g, the counts ahead of them in block h -/
structure VecAt (w : World) (b g h : Nat) (bs : List Bool) : Prop where
  len : bs.length ≤ 100000
  hn : w.cell? ⟨b, 0, none⟩ = some (.int .i64 bs.length)
  hw : w.cell? ⟨b, 1, none⟩ = some (.slice (some ⟨g, 0, none⟩) (words bs.length) (words bs.length))
  ha : w.cell? ⟨b, 2, none⟩ = some (.slice (some ⟨h, 0, none⟩) (words bs.length + 1) (words bs.length + 1))
  word : ∀ i, i < words bs.length → w.cell? ⟨g, i, none⟩ = some (.int .u64 (wordAt bs i))
  rank : ∀ i, i ≤ words bs.length → w.cell? ⟨h, i, none⟩ = some (.int .i64 (cnt (bs.take (64 * i))))

/-- i, brought between 0 and n -/
def clampN (i : Int) (n : Nat) : Nat := min i.toNat n
theorem clamp_cases (i : Int) (n : Nat) : (i < 0 ∧ clampN i n = 0) ∨ (0 ≤ i ∧ i ≤ n ∧ i = clampN i n) ∨ ((n : Int) < i ∧ clampN i n = n) := by
  unfold clampN; omega

theorem two_pow_lt {j : Nat} (hj : j < 64) : 2 ^ j < 18446744073709551616 := Nat.pow_lt_pow_right (a := 2) (m := j) (n := 64) (by omega) hj
theorem mask_eq (x j : Nat) (hx : x < 18446744073709551616) (hj : j < 64) : bits BinOp.and IntKind.u64 (x : Int) (IntKind.u64.wrap (IntKind.u64.wrap (2 ^ j) - 1)) = ((x % 2 ^ j : Nat) : Int) := by
  have h2 := two_pow_lt hj
  have h0 : 0 < 2 ^ j := Nat.pow_pos (by omega)
  have e : ((2 : Int) ^ j) = ((2 ^ j : Nat) : Int) := by simp
  rw [e, wrapU _ h2, show (((2 ^ j : Nat) : Int) - 1) = ((2 ^ j - 1 : Nat) : Int) by omega, wrapU _ (by omega), bits_and_u64_nat _ _ hx (by omega), Nat.and_two_pow_sub_one_eq_mod]

theorem ones64q (n : Nat) (w : World) (m : Nat) (h : n < 18446744073709551616) : Calls Try.prog 34 #[.int .u64 n] (w.drewN m) fun e w'' => e = .returned (.int .i64 (popN 64 n)) ∧ ∃ m, w'' = w.drewN m :=
  (ones64 n (w.drewN m) h).mono fun _ _ ⟨he, hw⟩ => ⟨he, m, hw.symm⟩

theorem ret_int {k : IntKind} {a b : Int} (h : a = b) : Ending.returned (.int k a) = .returned (.int k b) := by rw [h]

theorem rank_mid (w : World) (b g h : Nat) (bs : List Bool) (hv : VecAt w b g h bs) (i : Int) (k A : Nat) (hi : i = k ∨ ((k : Int) < i ∧ k = bs.length)) (hk : k ≤ bs.length) (hm : 0 < k % 64) (hA : w.cell? ⟨h, k / 64, none⟩ = some (.int .i64 A)) (_hA2 : A ≤ 100000) :
    Calls Try.prog 12 #[.pointer (some ⟨b, 0, none⟩), .int .i64 i] w fun e w' => e = .returned (.int .i64 ((A : Int) + (popN 64 (wordAt bs (k / 64) % 2 ^ (k % 64)) : Nat))) ∧ ∃ n, w' = w.drewN n := by
  have hl := hv.len
  have h0 := hv.hn
  have h1 := hv.hw
  have h2 := hv.ha
  have hw1 : k / 64 < words bs.length := words_mid hk hm
  have hw2 : k / 64 < words bs.length + 1 := by omega
  have h3 := hv.word (k / 64) hw1
  have hp : popN 64 (wordAt bs (k / 64) % 2 ^ (k % 64)) ≤ 64 := popN_le _ _
  rcases hi with rfl | ⟨hi, rfl⟩
  all_goals
    go_enter Try.func12, Try.ntmps12
    go_wp2
    go_quiet ((rw [mask_eq _ _ (wordAt_lt _ _) (Nat.mod_lt _ (by omega))]; exact ones64q _ _ _ (Nat.lt_of_le_of_lt (Nat.mod_le _ _) (wordAt_lt _ _))))
    go_wp2
    go_ret
    exact ⟨rfl, _, rfl⟩

theorem rank_edge (w : World) (b g h : Nat) (bs : List Bool) (hv : VecAt w b g h bs) (i : Int) (k A : Nat) (hi : (i < 0 ∧ k = 0) ∨ i = k ∨ ((k : Int) < i ∧ k = bs.length)) (hk : k ≤ bs.length) (hm : k % 64 = 0) (hA : w.cell? ⟨h, k / 64, none⟩ = some (.int .i64 A)) (_hA2 : A ≤ 100000) :
    Calls Try.prog 12 #[.pointer (some ⟨b, 0, none⟩), .int .i64 i] w fun e w' => e = .returned (.int .i64 A) ∧ ∃ n, w' = w.drewN n := by
  have hl := hv.len
  have h0 := hv.hn
  have h1 := hv.hw
  have h2 := hv.ha
  have hw2 : k / 64 < words bs.length + 1 := words_le hk
  have hm' : ¬ 0 < k % 64 := by omega
  clear hm
  rcases hi with ⟨hi, rfl⟩ | rfl | ⟨hi, rfl⟩
  all_goals
    go_enter Try.func12, Try.ntmps12
    go_wp2
    go_ret
    exact ⟨rfl, 0, rfl⟩

/-- Rank, at any place -/
theorem rank_any (w : World) (b g h : Nat) (bs : List Bool) (hv : VecAt w b g h bs) (i : Int) :
    Calls Try.prog 12 #[.pointer (some ⟨b, 0, none⟩), .int .i64 i] w fun e w' => e = .returned (.int .i64 (cnt (bs.take (clampN i bs.length)))) ∧ ∃ n, w' = w.drewN n := by
  have hc := clamp_cases i bs.length
  have hk : clampN i bs.length ≤ bs.length := by unfold clampN; omega
  generalize clampN i bs.length = k at *
  have hr := hv.rank (k / 64) (by have := words_le hk; omega)
  have hA : cnt (bs.take (64 * (k / 64))) ≤ 100000 := by have := cnt_le (bs.take (64 * (k / 64))); have := List.length_take_le' (64 * (k / 64)) bs; have := hv.len; omega
  have hp := cnt_part bs k
  by_cases hm : k % 64 = 0
  · refine (rank_edge w b g h bs hv i k _ ?_ hk hm hr hA).mono fun e w' ⟨he, hw⟩ => ⟨?_, hw⟩
    · rcases hc with ⟨h1, h2⟩ | ⟨_, _, h2⟩ | ⟨h1, h2⟩
      · exact .inl ⟨h1, h2⟩
      · exact .inr (.inl h2)
      · exact .inr (.inr ⟨by omega, h2⟩)
    · rw [he, show k = 64 * (k / 64) by omega]
      rw [Nat.mul_div_cancel_left _ (by omega)]
  · refine (rank_mid w b g h bs hv i k _ ?_ hk (by omega) hr hA).mono fun e w' ⟨he, hw⟩ => ⟨?_, hw⟩
    · rcases hc with ⟨h1, h2⟩ | ⟨_, _, h2⟩ | ⟨h1, h2⟩
      · exact absurd (by rw [h2]) hm
      · exact .inl h2
      · exact .inr ⟨by omega, h2⟩
    · rw [he, hp]
      exact ret_int (by omega)
end Go.Proofs.Ytekpjfbhhfcjnaa
