/- Contracts of disk.Disk's Sync. -/
import Derived.Test.YtebkgkaihjoamaaOn
namespace Go.Proofs.Ytebkgkaihjoamaa
open Go.RowKit Go.Proofs

theorem callFunc49 (A : Array Value) (W : World) : (callFunc 49 A).run Try.prog W = .ok (.enter 49 A) W := by kernel_rfl
/-- Sync's function: the file's bytes last -/
theorem sync1 {w : World} {f k cap : Nat} {p : Option Addr} {last : Int} (h : w.heap[f]? = some (.cells #[.slice p k cap, .int .i64 last] 64 (0, 0))) :
    Calls Try.prog 49 #[fptr f] w fun e w' => e = .returned (.int .i64 0) ∧ w' = w.setCell ⟨f, 1, none⟩ (.int .i64 k) := by
  have c0 : w.cell? ⟨f, 0, none⟩ = some (.slice p k cap) := by simp [World.cell?, h]
  have c1 : w.cell? ⟨f, 1, none⟩ = some (.int .i64 last) := by simp [World.cell?, h]
  have f1 : w.frozen? ⟨f, 1, none⟩ = false := by simp [World.frozen?, h]
  go_enter Try.func49, Try.ntmps49
  go_wp2
  go_ret
  exact ⟨rfl, rfl⟩

set_option maxRecDepth 100000 in
/-- Sync, of a name that is there -/
theorem sync_ok {w : World} {D N n : Nat} {q c st fe : Int} {vf : Value} {L : Nat} {vt : Value} {nm : DataW Unit} (h : DiskIs w D q c st 0 fe false vf N L vt) (hN : NamesAt w N n nm) (s : ByteArray) (hs : s.size ≤ maxLen) (ok : nameOk s = true)
    (f : Nat) (hf : fileOf nm s.data.toList = .lit (.int .i64 (f : Nat))) (hc : 0 ≤ c ∧ c ≤ 1000000) (hst : st ≤ 0) {k cap : Nat} {p : Option Addr} {last : Int} (hfile : w.heap[f]? = some (.cells #[.slice p k cap, .int .i64 last] 64 (0, 0))) :
    Calls Try.prog 24 #[.pointer (some ⟨D, 0, none⟩), .string s] w fun e w' => ∃ v, e = .returned v ∧ v = .int .i64 0 ∧ ∃ j, w' = ((onW w D s (.func (.func 49) #[] #[]) c).drewN j).setCell ⟨f, 1, none⟩ (.int .i64 k) := by
  have hfl := (Array.getElem?_eq_some_iff.1 hfile).1
  have hfW : (onW w D s (.func (.func 49) #[] #[]) c).heap[f]? = some (.cells #[.slice p k cap, .int .i64 last] 64 (0, 0)) := ((onW_keeps w D s _ c).block f hfl (by simpa using cells_ne hfile h (by decide))).trans hfile
  have H := Lib.hid (on_hit h hN s hs ok f hf #[] hc hst callFunc49 (fun v w' => v = .int .i64 0 ∧ ∃ j, w' = ((onW w D s (.func (.func 49) #[] #[]) c).drewN j).setCell ⟨f, 1, none⟩ (.int .i64 k)) fun j => (sync1 (w := (onW w D s (.func (.func 49) #[] #[]) c).drewN j) hfW).mono fun e w' ⟨he, hw⟩ => ⟨_, he, rfl, j, hw⟩)
  clear h hN
  go_enter Try.func24, Try.ntmps24
  go_wp2_with fail
  refine H.out.mono ?_
  rintro e w' ⟨v, rfl, hR⟩
  have HR := Lib.hid hR
  clear hR
  go_wp2
  go_ret
  exact ⟨v, rfl, HR.out⟩
end Go.Proofs.Ytebkgkaihjoamaa
