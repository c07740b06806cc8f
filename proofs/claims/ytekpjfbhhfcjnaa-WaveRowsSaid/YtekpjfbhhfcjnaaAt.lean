/- Contracts of a Vec's readers at places within it, in the form that the laws use. -/
import Derived.Test.YtekpjfbhhfcjnaaAwake
namespace Go.Proofs.Ytekpjfbhhfcjnaa
open Go.RowKit Go.Proofs

theorem onesAt_succ (bs : List Bool) (i : Nat) : onesAt bs (i + 1) = onesAt bs i + ((bs[i]?).getD false).toNat := by
  unfold onesAt
  by_cases h : i < bs.length
  · rw [cnt_take_succ bs i h]; simp [h]
  · rw [List.take_of_length_le (by omega), List.take_of_length_le (by omega)]; simp [List.getElem?_eq_none (show bs.length ≤ i by omega)]
theorem onesAt_le (bs : List Bool) (i : Nat) : onesAt bs i ≤ i := cnt_take_le bs i
theorem zerosAt_succ (bs : List Bool) (i : Nat) : zerosAt bs (i + 1) = zerosAt bs i + (!(bs[i]?).getD false).toNat := by
  have h1 := onesAt_succ bs i
  have h2 := onesAt_le bs i
  unfold zerosAt
  unfold onesAt at h1 h2
  cases hb : (bs[i]?).getD false <;> simp [hb] at h1 ⊢ <;> omega
theorem ones_zeros (bs : List Bool) (i : Nat) : onesAt bs i + zerosAt bs i = i := by
  have := onesAt_le bs i
  unfold zerosAt
  unfold onesAt at *
  omega

theorem zerosAt_mono (bs : List Bool) {i j : Nat} (h : i ≤ j) : zerosAt bs i ≤ zerosAt bs j := by
  obtain ⟨d, rfl⟩ : ∃ d, j = i + d := ⟨j - i, by omega⟩
  clear h
  induction d with
  | zero => exact Nat.le_refl _
  | succ d ih => have := zerosAt_succ bs (i + d); rw [← Nat.add_assoc]; omega

section
variable {w : World} {b g h : Nat} {bs : List Bool} (hv : VecAt w b g h bs)
include hv
theorem rank_at (i : Nat) (hi : i ≤ bs.length) : Calls Try.prog 12 #[.pointer (some ⟨b, 0, none⟩), .int .i64 i] w fun e w' => e = .returned (.int .i64 (onesAt bs i : Nat)) ∧ ∃ n, w' = w.drewN n := by
  have := rank_any w b g h _ hv i
  rwa [clampN_in hi] at this
theorem zeros_at (i : Nat) (hi : i ≤ bs.length) : Calls Try.prog 13 #[.pointer (some ⟨b, 0, none⟩), .int .i64 i] w fun e w' => e = .returned (.int .i64 (zerosAt bs i : Nat)) ∧ ∃ n, w' = w.drewN n := by
  have := zeros_any w b g h _ hv i
  rw [clampN_in hi] at this
  have h2 := cnt_take_le bs i
  exact this.mono fun e w' ⟨he, hw⟩ => ⟨he.trans (ret_int (by unfold zerosAt; omega)), hw⟩
theorem sel_hit (k : Nat) (hk : k < onesAt bs bs.length) : Calls Try.prog 15 #[.pointer (some ⟨b, 0, none⟩), .int .i64 k] w fun e w' =>
    ∃ p : Nat, p < bs.length ∧ onesAt bs p = k ∧ (bs[p]?).getD false = true ∧ e = .returned (.int .i64 p) ∧ ∃ n, w' = w.drewN n := by
  refine (select_any w b g h _ hv k).mono ?_
  rintro e w' ⟨⟨j, rfl, hj⟩, hw⟩
  rcases hj with ⟨h1, rfl⟩ | ⟨_, p, hp, rfl, h1, h2⟩
  · omega
  · have hs := onesAt_succ bs p
    cases hb : (bs[p]?).getD false <;> simp [hb] at hs
    · omega
    · exact ⟨p, hp, by omega, hb, rfl, hw⟩
theorem sel0_hit (k : Nat) (hk : k < zerosAt bs bs.length) : Calls Try.prog 16 #[.pointer (some ⟨b, 0, none⟩), .int .i64 k] w fun e w' =>
    ∃ p : Nat, p < bs.length ∧ zerosAt bs p = k ∧ (bs[p]?).getD false = false ∧ e = .returned (.int .i64 p) ∧ ∃ n, w' = w.drewN n := by
  refine (select0_any w b g h _ hv k).mono ?_
  rintro e w' ⟨⟨j, rfl, hj⟩, hw⟩
  rcases hj with ⟨h1, rfl⟩ | ⟨_, p, hp, rfl, h1, h2⟩
  · omega
  · have hs := zerosAt_succ bs p
    cases hb : (bs[p]?).getD false <;> simp [hb] at hs
    · exact ⟨p, hp, by omega, hb, rfl, hw⟩
    · omega
theorem sel_miss (k : Int) (hk : k < 0 ∨ (onesAt bs bs.length : Int) ≤ k) : Calls Try.prog 15 #[.pointer (some ⟨b, 0, none⟩), .int .i64 k] w fun e w' => e = .returned (.int .i64 (-1)) ∧ ∃ n, w' = w.drewN n := by
  refine (select_any w b g h _ hv k).mono ?_
  rintro e w' ⟨⟨j, rfl, hj⟩, hw⟩
  refine ⟨ret_int ?_, hw⟩
  rcases hj with ⟨h1, rfl⟩ | ⟨h0, p, hp, rfl, h1, h2⟩
  · rfl
  · have hm := cnt_take_mono bs (show p + 1 ≤ bs.length by omega)
    unfold onesAt at *
    omega
theorem sel0_miss (k : Int) (hk : k < 0 ∨ (zerosAt bs bs.length : Int) ≤ k) : Calls Try.prog 16 #[.pointer (some ⟨b, 0, none⟩), .int .i64 k] w fun e w' => e = .returned (.int .i64 (-1)) ∧ ∃ n, w' = w.drewN n := by
  refine (select0_any w b g h _ hv k).mono ?_
  rintro e w' ⟨⟨j, rfl, hj⟩, hw⟩
  refine ⟨ret_int ?_, hw⟩
  rcases hj with ⟨h1, rfl⟩ | ⟨h0, p, hp, rfl, h1, h2⟩
  · rfl
  · have hm := zerosAt_mono bs (show p + 1 ≤ bs.length by omega)
    omega
theorem get_at (i : Nat) (x : Bool) (hx : (bs[i]?).getD false = x) : Calls Try.prog 14 #[.pointer (some ⟨b, 0, none⟩), .int .i64 i] w fun e w' => e = .returned (.bool x) ∧ w = w' := by
  have := get_any w b g h _ hv i
  have e : bitAt bs i = x := by simp [bitAt, hx]
  rwa [e] at this
end

/-- what a mask of ones leaves of an int -/
theorem and_mask (n : Int) (k : Nat) (hk : k < 63) : bits BinOp.and IntKind.i64 n ((2 ^ k - 1 : Nat) : Int) = ((BitVec.ofInt 64 n).toNat % 2 ^ k : Nat) := by
  have h : ∀ m : Int, IntKind.i64.wrap m = wrap64 m := IntWalk.i64_left
  have hp : 2 ^ k ≤ 2 ^ 62 := Nat.pow_le_pow_right (by omega) (by omega)
  have h0 : 0 < 2 ^ k := Nat.pow_pos (by omega)
  unfold bits
  rw [h]
  show wrap64 (((BitVec.ofInt 64 n &&& BitVec.ofInt 64 ((2 ^ k - 1 : Nat) : Int)).toNat : Nat) : Int) = _
  rw [BitVec.toNat_and]
  have e : (BitVec.ofInt 64 ((2 ^ k - 1 : Nat) : Int)).toNat = 2 ^ k - 1 := by
    rw [BitVec.toNat_ofInt]
    omega
  rw [e, Nat.and_two_pow_sub_one_eq_mod]
  have : (BitVec.ofInt 64 n).toNat % 2 ^ k < 2 ^ k := Nat.mod_lt _ h0
  unfold wrap64
  omega
theorem mask_nat (n : Int) (k : Nat) (hk : k < 63) : ∃ m : Nat, bits BinOp.and IntKind.i64 n ((2 ^ k - 1 : Nat) : Int) = (m : Nat) ∧ m ≤ 2 ^ k - 1 :=
  ⟨_, and_mask n k hk, by have := Nat.mod_lt (BitVec.ofInt 64 n).toNat (Nat.pow_pos (n := k) (show 0 < 2 by omega)); omega⟩

theorem longOf_length (l : List Bool) (n : Nat) : (longOf l n).length ≤ n := by
  unfold longOf; split <;> simp
end Go.Proofs.Ytekpjfbhhfcjnaa
