/- The contract of disk.Disk's Fail, at a number that is not negative and either of the two errors. -/
import Derived.Test.YtebkgkaihjoamaaStop
namespace Go.Proofs.Ytebkgkaihjoamaa
open Go.RowKit Go.Proofs
theorem DiskIs.fails {w : World} {D : Nat} {q c st fl fe : Int} {dead : Bool} {vf : Value} {N L : Nat} {vt : Value} (h : DiskIs w D q c st fl fe dead vf N L vt) (fl' : Int) : DiskIs (w.setCell ⟨D, 3, none⟩ (.int .i64 fl')) D q c st fl' fe dead vf N L vt := cells_set h 3 _
theorem DiskIs.failEs {w : World} {D : Nat} {q c st fl fe : Int} {dead : Bool} {vf : Value} {N L : Nat} {vt : Value} (h : DiskIs w D q c st fl fe dead vf N L vt) (fe' : Int) : DiskIs (w.setCell ⟨D, 4, none⟩ (.int .i64 fe')) D q c st fl fe' dead vf N L vt := cells_set h 4 _
theorem fail_nat {w : World} {D : Nat} {q c st fl fe : Int} {dead : Bool} {vf : Value} {N L : Nat} {vt : Value} (h : DiskIs w D q c st fl fe dead vf N L vt) (n : Nat) (hn : n ≤ 1000) (e : Int) (he : e = 15 ∨ e = 51) :
    Calls Try.prog 31 #[.pointer (some ⟨D, 0, none⟩), .int .i64 n, .int .i64 e] w fun x w' => (∃ v, x = .returned v) ∧ w' = (w.setCell ⟨D, 3, none⟩ (.int .i64 n)).setCell ⟨D, 4, none⟩ (.int .i64 e) := by
  have c3 : w.cell? ⟨D, 3, none⟩ = some (.int .i64 fl) := h.cell 3 _ rfl
  have f3 := h.frozen 3
  have h1 := h.fails n
  have c4 : (w.setCell ⟨D, 3, none⟩ (.int .i64 n)).cell? ⟨D, 4, none⟩ = some (.int .i64 fe) := h1.cell 4 _ rfl
  have f4 := h1.frozen 4
  rcases he with rfl | rfl
  all_goals
    go_enter Try.func31, Try.ntmps31
    go_wp2
    go_end0
    exact ⟨⟨_, rfl⟩, rfl⟩
end Go.Proofs.Ytebkgkaihjoamaa
