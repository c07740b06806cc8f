/- Masks, and what laws say of strings. -/
import Derived.Test.YtebkgkaihjoamaaOne
namespace Go.Proofs.Ytebkgkaihjoamaa
open Go.RowKit Go.Proofs

/-- what a mask of ones leaves of an int -/
theorem and_mask (n : Int) (k : Nat) (hk : k < 63) : bits BinOp.and IntKind.i64 n ((2 ^ k - 1 : Nat) : Int) = ((BitVec.ofInt 64 n).toNat % 2 ^ k : Nat) := by
  have h : ∀ m : Int, IntKind.i64.wrap m = wrap64 m := IntWalk.i64_left
  have hp : 2 ^ k ≤ 2 ^ 62 := Nat.pow_le_pow_right (by omega) (by omega)
  have h0 : 0 < 2 ^ k := Nat.pow_pos (by omega)
  unfold bits
  rw [h]
  show wrap64 (((BitVec.ofInt 64 n &&& BitVec.ofInt 64 ((2 ^ k - 1 : Nat) : Int)).toNat : Nat) : Int) = _
  rw [BitVec.toNat_and]
  have e : (BitVec.ofInt 64 ((2 ^ k - 1 : Nat) : Int)).toNat = 2 ^ k - 1 := by
    rw [BitVec.toNat_ofInt]
    omega
  rw [e, Nat.and_two_pow_sub_one_eq_mod]
  have : (BitVec.ofInt 64 n).toNat % 2 ^ k < 2 ^ k := Nat.mod_lt _ h0
  unfold wrap64
  omega
theorem mask_nat (n : Int) (k : Nat) (hk : k < 63) : ∃ m : Nat, bits BinOp.and IntKind.i64 n ((2 ^ k - 1 : Nat) : Int) = (m : Nat) ∧ m ≤ 2 ^ k - 1 :=
  ⟨_, and_mask n k hk, by have := Nat.mod_lt (BitVec.ofInt 64 n).toNat (Nat.pow_pos (n := k) (show 0 < 2 by omega)); omega⟩

/-- a text of bytes -/
abbrev textOf (l : List UInt8) : ByteArray := ⟨l.toArray⟩
theorem textOf_size (l : List UInt8) : (textOf l).size = l.length := by simp [ByteArray.size]
theorem textOf_data (l : List UInt8) : (textOf l).data.toList = l := rfl
theorem bytesOf_length (n k : Nat) : (bytesOf n k).length = k := by simp [bytesOf]
theorem conv_text (w : World) (l : List UInt8) : Reads (convW w (textOf l)) (convV w (textOf l)) (cellsOf l) := conv_reads w (textOf l)
theorem conv_off (w : World) (s : ByteArray) {D : Nat} (h : D < w.heap.size) : (convV w s).rowBlock ≠ some D := by
  rw [conv_block]
  simp
  omega
theorem text_extract (l : List UInt8) (a h : Nat) : (textOf l).extract a h = textOf ((l.drop a).take (h - a)) := by
  have h1 : ((textOf l).extract a h).data = (textOf ((l.drop a).take (h - a))).data := by
    rw [ByteArray.data_extract]
    simp [List.extract]
  cases hx : (textOf l).extract a h
  rw [hx] at h1
  simpa using h1
theorem slice_text (w : World) (l : List UInt8) (a h : Nat) (x y : Int) (hx : x = a) (hy : y = h) (hah : a ≤ h) (hh : h ≤ l.length) : (Instr.slice 9 (.string (textOf l)) (some (.int .i64 x)) (some (.int .i64 y)) none).run Try.prog w = .ok (.string (textOf ((l.drop a).take (h - a)))) w := by
  subst hx hy
  simp [Instr.slice, run_underlying Try.underlying9, Instr.sliceBounds, Instr.sliceBound, Result.andThen, go_sem, text_extract, hh, hah]
end Go.Proofs.Ytebkgkaihjoamaa
