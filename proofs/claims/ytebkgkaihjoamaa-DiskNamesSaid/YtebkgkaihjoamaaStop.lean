/- The contract of disk.Disk's Stop, at a number that is not negative, of a disk that lives. -/
import Derived.Test.YtebkgkaihjoamaaSmall
namespace Go.Proofs.Ytebkgkaihjoamaa
open Go.RowKit Go.Proofs
theorem DiskIs.stops {w : World} {D : Nat} {q c st fl fe : Int} {dead : Bool} {vf : Value} {N L : Nat} {vt : Value} (h : DiskIs w D q c st fl fe dead vf N L vt) (st' : Int) : DiskIs (w.setCell ⟨D, 2, none⟩ (.int .i64 st')) D q c st' fl fe dead vf N L vt := cells_set h 2 _
theorem DiskIs.deads {w : World} {D : Nat} {q c st fl fe : Int} {dead : Bool} {vf : Value} {N L : Nat} {vt : Value} (h : DiskIs w D q c st fl fe dead vf N L vt) (b : Bool) : DiskIs (w.setCell ⟨D, 5, none⟩ (.bool b)) D q c st fl fe b vf N L vt := cells_set h 5 _
theorem stop_nat {w : World} {D : Nat} {q c st fl fe : Int} {vf : Value} {N L : Nat} {vt : Value} (h : DiskIs w D q c st fl fe false vf N L vt) (n : Nat) (hn : n ≤ 1000) :
    Calls Try.prog 28 #[.pointer (some ⟨D, 0, none⟩), .int .i64 n] w fun e w' => (∃ v, e = .returned v) ∧ w' = (w.setCell ⟨D, 2, none⟩ (.int .i64 n)).setCell ⟨D, 5, none⟩ (.bool ((n : Int) == 0)) := by
  have c2 : w.cell? ⟨D, 2, none⟩ = some (.int .i64 st) := h.cell 2 _ rfl
  have f2 := h.frozen 2
  have h1 := h.stops n
  have c5 : (w.setCell ⟨D, 2, none⟩ (.int .i64 n)).cell? ⟨D, 5, none⟩ = some (.bool false) := h1.cell 5 _ rfl
  have f5 := h1.frozen 5
  go_enter Try.func28, Try.ntmps28
  go_wp2
  go_end0
  exact ⟨⟨_, rfl⟩, rfl⟩
end Go.Proofs.Ytebkgkaihjoamaa
