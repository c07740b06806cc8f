/- Contracts of disk.Disk's ask and Size. -/
import Derived.Test.YtebkgkaihjoamaaSmall
namespace Go.Proofs.Ytebkgkaihjoamaa
open Go.RowKit Go.Proofs

theorem eql_ptr_nil (w : World) (a : Option Addr) : (binOp .eql 62 (.pointer a) (.pointer none)).run Try.prog w = .ok (.bool a.isNone) w := by
  have h : ∀ d : Nat, (Op.equalIn (d + 1) 62 (.pointer a) (.pointer none)).run Try.prog w = .ok a.isNone w := fun d => by
    cases a <;> simp [Op.equalIn, run_underlying Try.underlying62]
  simp only [binOp]
  simp [Op.equal, Op.maxDepth, h 9999]
section
variable {w : World} {D : Nat} {q c st fl fe : Int} {vf : Value} {N L n : Nat} {vt : Value} {nm : DataW Unit}
theorem ask_hit (h : DiskIs w D q c st fl fe false vf N L vt) (hN : NamesAt w N n nm) (s : ByteArray) (hs : s.size ≤ maxLen) (ok : nameOk s = true) (f : Nat) (hf : fileOf nm s.data.toList = .lit (.int .i64 (f : Nat))) :
    Calls Try.prog 44 #[.pointer (some ⟨D, 0, none⟩), .string s] w fun e w' => e = .returned (.tuple #[fptr f, .int .i64 0]) ∧ w = w' := by
  have c5 : w.cell? ⟨D, 5, none⟩ = some (.bool false) := h.cell 5 _ rfl
  have c7 : w.cell? ⟨D, 7, none⟩ = some (.map (some N)) := h.cell 7 _ rfl
  have hl := hN.look s hs f hf
  have HA := Lib.hid (name_any s hs w)
  rw [ok] at HA
  go_enter Try.func44, Try.ntmps44
  go_wp2_with (go_at_call 32; (with_reducible refine HA.out.mono ?_); rintro e w' ⟨rfl, rfl⟩)
  go_ret2
  exact ⟨rfl, rfl⟩
theorem ask_miss (h : DiskIs w D q c st fl fe false vf N L vt) (hN : NamesAt w N n nm) (s : ByteArray) (hs : s.size ≤ maxLen) (ok : nameOk s = true) (hf : fileOf nm s.data.toList = .lit (.int .i64 (-1))) :
    Calls Try.prog 44 #[.pointer (some ⟨D, 0, none⟩), .string s] w fun e w' => e = .returned (.tuple #[.pointer none, .int .i64 11]) ∧ w = w' := by
  have c5 : w.cell? ⟨D, 5, none⟩ = some (.bool false) := h.cell 5 _ rfl
  have c7 : w.cell? ⟨D, 7, none⟩ = some (.map (some N)) := h.cell 7 _ rfl
  have hl := hN.miss s hs hf
  have HA := Lib.hid (name_any s hs w)
  rw [ok] at HA
  go_enter Try.func44, Try.ntmps44
  go_wp2_with (go_at_call 32; (with_reducible refine HA.out.mono ?_); rintro e w' ⟨rfl, rfl⟩)
  go_ret2
  exact ⟨rfl, rfl⟩
theorem ask_bad (s : ByteArray) (hs : s.size ≤ maxLen) (ok : nameOk s = false) :
    Calls Try.prog 44 #[.pointer (some ⟨D, 0, none⟩), .string s] w fun e w' => e = .returned (.tuple #[.pointer none, .int .i64 10]) ∧ w = w' := by
  have HA := Lib.hid (name_any s hs w)
  rw [ok] at HA
  go_enter Try.func44, Try.ntmps44
  go_wp2_with (go_at_call 32; (with_reducible refine HA.out.mono ?_); rintro e w' ⟨rfl, rfl⟩)
  go_ret2
  exact ⟨rfl, rfl⟩
theorem size_hit (h : DiskIs w D q c st fl fe false vf N L vt) (hN : NamesAt w N n nm) (s : ByteArray) (hs : s.size ≤ maxLen) (ok : nameOk s = true) (f : Nat) (hf : fileOf nm s.data.toList = .lit (.int .i64 (f : Nat)))
    (p : Option Addr) (k cap : Nat) (hb : w.cell? ⟨f, 0, none⟩ = some (.slice p k cap)) :
    Calls Try.prog 22 #[.pointer (some ⟨D, 0, none⟩), .string s] w fun e w' => e = .returned (.tuple #[.int .i64 k, .int .i64 0]) ∧ w = w' := by
  have HA := Lib.hid (ask_hit h hN s hs ok f hf)
  clear h hN
  go_enter Try.func22, Try.ntmps22
  go_wp2_with (go_at_call 44; (with_reducible refine HA.out.mono ?_); rintro e w' ⟨rfl, rfl⟩)
  go_ret2
  exact ⟨rfl, rfl⟩
theorem size_miss (h : DiskIs w D q c st fl fe false vf N L vt) (hN : NamesAt w N n nm) (s : ByteArray) (hs : s.size ≤ maxLen) (ok : nameOk s = true) (hf : fileOf nm s.data.toList = .lit (.int .i64 (-1))) :
    Calls Try.prog 22 #[.pointer (some ⟨D, 0, none⟩), .string s] w fun e w' => e = .returned (.tuple #[.int .i64 0, .int .i64 11]) ∧ w = w' := by
  have HA := Lib.hid (ask_miss h hN s hs ok hf)
  clear h hN
  go_enter Try.func22, Try.ntmps22
  go_wp2_with (go_at_call 44; (with_reducible refine HA.out.mono ?_); rintro e w' ⟨rfl, rfl⟩)
  go_ret2
  exact ⟨rfl, rfl⟩
end
end Go.Proofs.Ytebkgkaihjoamaa
