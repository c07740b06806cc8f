/- Plain lists of bits: their words of 64, and how many are set ahead of a place. -/
import Derived.Test.YtekpjfbhhfcjnaaPop
namespace Go.Proofs.Ytekpjfbhhfcjnaa

/-- how many of a list are set -/
def cnt : List Bool → Nat
  | [] => 0
  | b :: r => b.toNat + cnt r
theorem cnt_append (a b : List Bool) : cnt (a ++ b) = cnt a + cnt b := by
  induction a with
  | nil => simp [cnt]
  | cons x a ih => simp only [List.cons_append, cnt, ih]; omega
theorem cnt_le (a : List Bool) : cnt a ≤ a.length := by
  induction a with
  | nil => simp [cnt]
  | cons x a ih => simp only [cnt, List.length_cons]; have := Bool.toNat_le x; omega
/-- bits as a number, the lowest first -/
def wordOf : List Bool → Nat
  | [] => 0
  | b :: r => b.toNat + 2 * wordOf r
theorem wordOf_lt : ∀ l : List Bool, wordOf l < 2 ^ l.length
  | [] => by simp [wordOf]
  | b :: r => by have := wordOf_lt r; have := Bool.toNat_le b; simp only [wordOf, List.length_cons, Nat.pow_succ]; omega
theorem popN_wordOf : ∀ (k : Nat) (l : List Bool), l.length ≤ k → popN k (wordOf l) = cnt l
  | 0, [], _ => by simp [popN, cnt]
  | k + 1, [], _ => by simpa [popN, wordOf, cnt] using popN_wordOf k [] (Nat.zero_le _)
  | k + 1, b :: r, h => by
    have h1 : (b.toNat + 2 * wordOf r) % 2 = b.toNat := by have := Bool.toNat_le b; omega
    have h2 : (b.toNat + 2 * wordOf r) / 2 = wordOf r := by have := Bool.toNat_le b; omega
    simp only [popN, wordOf, cnt, h1, h2]
    rw [popN_wordOf k r (by simpa using h)]
theorem wordOf_take : ∀ (k : Nat) (l : List Bool), wordOf (l.take k) = wordOf l % 2 ^ k
  | 0, l => by simp [wordOf, Nat.mod_one]
  | k + 1, [] => by simp [wordOf]
  | k + 1, b :: r => by
    have := Bool.toNat_le b
    simp only [List.take_succ_cons, wordOf, wordOf_take k r, Nat.pow_succ]
    rw [Nat.mul_comm (2 ^ k) 2, Nat.mod_mul]
    have h1 : (b.toNat + 2 * wordOf r) % 2 = b.toNat := by omega
    have h2 : (b.toNat + 2 * wordOf r) / 2 = wordOf r := by omega
    rw [h1, h2]
theorem wordOf_bit : ∀ (k : Nat) (l : List Bool), wordOf l / 2 ^ k % 2 = ((l[k]?).getD false).toNat
  | k, [] => by simp [wordOf]
  | 0, b :: r => by have := Bool.toNat_le b; simp only [wordOf, Nat.pow_zero, Nat.div_one, List.getElem?_cons_zero, Option.getD_some]; omega
  | k + 1, b :: r => by
    have := Bool.toNat_le b
    rw [Nat.pow_succ, Nat.mul_comm, ← Nat.div_div_eq_div_mul]
    have h2 : (wordOf (b :: r)) / 2 = wordOf r := by simp only [wordOf]; omega
    rw [h2, wordOf_bit k r]
    simp

def words (n : Nat) : Nat := (n + 63) / 64
/-- the i-th word of a list of bits -/
def wordAt (bs : List Bool) (i : Nat) : Nat := wordOf ((bs.drop (64 * i)).take 64)
theorem wordAt_lt (bs : List Bool) (i : Nat) : wordAt bs i < 18446744073709551616 := by
  have h := wordOf_lt ((bs.drop (64 * i)).take 64)
  refine Nat.lt_of_lt_of_le h ?_
  exact Nat.pow_le_pow_right (n := 2) (j := 64) (by omega) (List.length_take_le _ _)
theorem cnt_take_split (bs : List Bool) (i : Nat) : cnt (bs.take i) = cnt (bs.take (64 * (i / 64))) + cnt (((bs.drop (64 * (i / 64))).take 64).take (i % 64)) := by
  rw [← cnt_append]
  congr 1
  rw [List.take_take, Nat.min_eq_left (by omega)]
  conv => lhs; rw [show i = 64 * (i / 64) + i % 64 from by omega]
  exact List.take_add
theorem cnt_next (bs : List Bool) (i : Nat) : cnt (bs.take (64 * (i + 1))) = cnt (bs.take (64 * i)) + popN 64 (wordAt bs i) := by
  unfold wordAt
  rw [popN_wordOf 64 _ (List.length_take_le _ _), ← cnt_append]
  congr 1
  rw [show 64 * (i + 1) = 64 * i + 64 from by omega]
  exact List.take_add
/-- a part of a word -/
theorem cnt_part (bs : List Bool) (i : Nat) : cnt (bs.take i) = cnt (bs.take (64 * (i / 64))) + popN 64 (wordAt bs (i / 64) % 2 ^ (i % 64)) := by
  rw [cnt_take_split, wordAt, ← wordOf_take, popN_wordOf 64]
  exact Nat.le_trans (List.length_take_le _ _) (by omega)
theorem wordAt_bit (bs : List Bool) (i : Nat) : wordAt bs (i / 64) / 2 ^ (i % 64) % 2 = ((bs[i]?).getD false).toNat := by
  rw [wordAt, wordOf_bit]
  congr 2
  rw [List.getElem?_take, if_pos (by omega), List.getElem?_drop]
  congr 1
  omega
theorem cnt_take_succ (bs : List Bool) (i : Nat) (h : i < bs.length) : cnt (bs.take (i + 1)) = cnt (bs.take i) + bs[i].toNat := by
  rw [List.take_succ_eq_append_getElem h, cnt_append]
  simp [cnt]
theorem cnt_take_mono (bs : List Bool) {i j : Nat} (h : i ≤ j) : cnt (bs.take i) ≤ cnt (bs.take j) := by
  have e : bs.take j = bs.take i ++ (bs.drop i).take (j - i) := by
    conv => lhs; rw [show j = i + (j - i) from by omega]
    exact List.take_add
  rw [e, cnt_append]; omega
theorem cnt_take_le (bs : List Bool) (i : Nat) : cnt (bs.take i) ≤ i := by
  have := cnt_le (bs.take i)
  have := List.length_take_le i bs
  omega
theorem popN_le : ∀ (k n : Nat), popN k n ≤ k
  | 0, _ => by simp [popN]
  | k + 1, n => by have := popN_le k (n / 2); simp only [popN]; omega
theorem words_lt {n k : Nat} (h : k < n) : k / 64 < words n := by unfold words; omega
theorem words_le {n k : Nat} (h : k ≤ n) : k / 64 < words n + 1 := by unfold words; omega
theorem words_mid {n k : Nat} (h : k ≤ n) (hm : 0 < k % 64) : k / 64 < words n := by unfold words; omega
theorem words_bd {n : Nat} (h : n ≤ 100000) : words n ≤ 1563 := by unfold words; omega
theorem wordOf_snoc (l : List Bool) (b : Bool) : wordOf (l ++ [b]) = wordOf l + b.toNat * 2 ^ l.length := by
  induction l with
  | nil => simp [wordOf]
  | cons x l ih => simp only [List.cons_append, wordOf, ih, List.length_cons, Nat.pow_succ]; have := Nat.mul_comm (b.toNat * 2 ^ l.length) 2; rw [Nat.mul_add, ← Nat.mul_assoc b.toNat]; omega
theorem wordAt_part_lt (bs : List Bool) (k : Nat) (h : k ≤ bs.length) : wordAt (bs.take k) (k / 64) < 2 ^ (k % 64) := by
  have h1 := wordOf_lt (((bs.take k).drop (64 * (k / 64))).take 64)
  unfold wordAt
  have h2 : (((bs.take k).drop (64 * (k / 64))).take 64).length = k % 64 := by simp; omega
  rwa [h2] at h1
theorem wordAt_succ (bs : List Bool) (k j : Nat) (h : k < bs.length) : wordAt (bs.take (k + 1)) j = if j = k / 64 then wordAt (bs.take k) j + bs[k].toNat * 2 ^ (k % 64) else wordAt (bs.take k) j := by
  have hl : (bs.take k).length = k := by simp; omega
  unfold wordAt
  rw [List.take_succ_eq_append_getElem h]
  by_cases e : j = k / 64
  · subst e
    rw [if_pos rfl, List.drop_append_of_le_length (by omega)]
    have h2 : ((bs.take k).drop (64 * (k / 64))).length = k % 64 := by simp; omega
    generalize (bs.take k).drop (64 * (k / 64)) = q at *
    have h3 : k % 64 < 64 := Nat.mod_lt _ (by omega)
    rw [List.take_of_length_le (l := q ++ [bs[k]]) (by simp [h2]; omega), List.take_of_length_le (l := q) (by omega), wordOf_snoc, h2]
  · rw [if_neg e]
    by_cases e2 : j < k / 64
    · rw [List.drop_append_of_le_length (by omega), List.take_append_of_le_length (by simp; omega)]
    · rw [List.drop_eq_nil_of_le (by simp; omega), List.drop_eq_nil_of_le (by omega)]
theorem or_bit (x k : Nat) (h : x < 2 ^ k) : x ||| 2 ^ k = x + 2 ^ k := by
  have := Nat.two_pow_add_eq_or_of_lt h 1
  rw [Nat.or_comm, ← (by simpa using this : 2 ^ k + x = 2 ^ k ||| x)]
  omega
attribute [irreducible] cnt wordOf wordAt words
end Go.Proofs.Ytekpjfbhhfcjnaa
