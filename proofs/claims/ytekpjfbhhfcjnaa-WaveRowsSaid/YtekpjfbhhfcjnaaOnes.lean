/- The contract of math/bits.OnesCount64: it returns how many bits of its word are set, and writes nothing. -/
import Derived.Test.YtekpjfbhhfcjnaaProg
import Derived.Test.YtekpjfbhhfcjnaaPop
import Derived.WalkKit
import Derived.Lib.Hide
namespace Go.Proofs.Ytekpjfbhhfcjnaa
open Go.RowKit Go.Proofs

def o1 (x : Int) : Int := IntKind.u64.wrap (bits BinOp.and IntKind.u64 (x / 2) 6148914691236517205 + bits BinOp.and IntKind.u64 x 6148914691236517205)
def o2 (x : Int) : Int := IntKind.u64.wrap (bits BinOp.and IntKind.u64 (x / 4) 3689348814741910323 + bits BinOp.and IntKind.u64 x 3689348814741910323)
def o3 (x : Int) : Int := bits BinOp.and IntKind.u64 (IntKind.u64.wrap (x / 16 + x)) 1085102592571150095
def o4 (x : Int) : Int := IntKind.u64.wrap (x + x / 256)
def o5 (x : Int) : Int := IntKind.u64.wrap (x + x / 65536)
def o6 (x : Int) : Int := IntKind.u64.wrap (x + x / 4294967296)
def o7 (x : Int) : Int := bits BinOp.and IntKind.i64 (wrap64 x) 127

theorem wrapU (n : Nat) (h : n < 18446744073709551616) : IntKind.u64.wrap (n : Int) = n := by
  simp only [IntKind.wrap, IntKind.signed, IntKind.bits, Bool.false_and, Bool.false_eq_true, if_false]
  omega
theorem o1_eq (n : Nat) (h : n < 18446744073709551616) : o1 n = (S1 n : Nat) := by
  unfold o1
  rw [show ((n : Int) / 2) = ((n / 2 : Nat) : Int) by omega, show (6148914691236517205 : Int) = ((6148914691236517205 : Nat) : Int) from rfl,
    bits_and_u64_nat _ _ (by omega) (by omega), bits_and_u64_nat _ _ h (by omega), ← Int.natCast_add]
  exact wrapU _ (S1_lt n)
theorem o2_eq (n : Nat) (h : n < 18446744073709551616) : o2 n = (S2 n : Nat) := by
  have h2 := S2_le n
  unfold o2
  rw [show ((n : Int) / 4) = ((n / 4 : Nat) : Int) by omega, show (3689348814741910323 : Int) = ((3689348814741910323 : Nat) : Int) from rfl,
    bits_and_u64_nat _ _ (by omega) (by omega), bits_and_u64_nat _ _ h (by omega), ← Int.natCast_add]
  exact wrapU _ (Nat.lt_of_le_of_lt h2 (by omega))
theorem o3_eq (n : Nat) (h : n ≤ 7378697629483820646) : o3 n = (S3 n : Nat) := by
  unfold o3
  rw [show ((n : Int) / 16 + n) = ((n / 16 + n : Nat) : Int) by omega, wrapU _ (by omega), show (1085102592571150095 : Int) = ((1085102592571150095 : Nat) : Int) from rfl,
    bits_and_u64_nat _ _ (by omega) (by omega)]
  rfl
theorem o7_eq (n : Nat) (_h : n < 18446744073709551616) : o7 n = (n % 128 : Nat) := by
  have e : ∀ x : Int, bits BinOp.and IntKind.i64 x 127 = wrap64 (((BitVec.ofInt 64 x &&& BitVec.ofInt 64 127).toNat : Nat) : Int) := fun x => by
    have h : ∀ m : Int, IntKind.i64.wrap m = wrap64 m := IntWalk.i64_left
    unfold bits
    rw [h]
    rfl
  unfold o7
  rw [e]
  have e1 : (BitVec.ofInt 64 (wrap64 (n : Int)) &&& BitVec.ofInt 64 127).toNat = n % 128 := by
    rw [BitVec.toNat_and, show (BitVec.ofInt 64 127).toNat = 2 ^ 7 - 1 by decide, Nat.and_two_pow_sub_one_eq_mod]
    simp only [BitVec.toNat_ofInt, wrap64]
    omega
  rw [e1]
  unfold wrap64
  omega
theorem ones_eq (n : Nat) (h : n < 18446744073709551616) : o7 (o6 (o5 (o4 (o3 (o2 (o1 n)))))) = (popN 64 n : Nat) := by
  rw [o1_eq n h, o2_eq _ (S1_lt n), o3_eq _ (S2_le _)]
  obtain ⟨ha, hb, hc, hp⟩ := fold_pop n h _ _ _ rfl rfl rfl
  generalize S3 (S2 (S1 n)) = x at *
  have e4 : o4 x = ((x + x / 256 : Nat) : Int) := by
    unfold o4; rw [show ((x : Int) + x / 256) = ((x + x / 256 : Nat) : Int) by omega]; exact wrapU _ ha
  rw [e4]
  generalize x + x / 256 = y at *
  have e5 : o5 y = ((y + y / 65536 : Nat) : Int) := by
    unfold o5; rw [show ((y : Int) + y / 65536) = ((y + y / 65536 : Nat) : Int) by omega]; exact wrapU _ hb
  rw [e5]
  generalize y + y / 65536 = z at *
  have e6 : o6 z = ((z + z / 4294967296 : Nat) : Int) := by
    unfold o6; rw [show ((z : Int) + z / 4294967296) = ((z + z / 4294967296 : Nat) : Int) by omega]; exact wrapU _ hc
  rw [e6, o7_eq _ hc, hp]

theorem ones64 (n : Nat) (w : World) (h : n < 18446744073709551616) : Calls Try.prog 34 #[.int .u64 n] w fun e w' => e = .returned (.int .i64 (popN 64 n)) ∧ w = w' := by
  have H := Lib.hid (ones_eq n h)
  go_enter Try.func34, Try.ntmps34
  go_wp2
  go_ret
  refine ⟨?_, rfl⟩
  rw [← H.out]
  rfl
end Go.Proofs.Ytekpjfbhhfcjnaa
