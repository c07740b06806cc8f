/- The contract of disk.Disk's call. -/
import Derived.Test.YtebkgkaihjoamaaMaps
namespace Go.Proofs.Ytebkgkaihjoamaa
open Go.RowKit Go.Proofs

/-- block D holds a disk: quota, calls, stop, fail, failE, dead, files, names, last, turns -/
def DiskIs (w : World) (D : Nat) (q c st fl fe : Int) (dead : Bool) (vf : Value) (N L : Nat) (vt : Value) : Prop :=
  w.heap[D]? = some (.cells #[.int .i64 q, .int .i64 c, .int .i64 st, .int .i64 fl, .int .i64 fe, .bool dead, vf, .map (some N), .map (some L), vt] 60 (0, 0))
theorem DiskIs.cell {w : World} {D : Nat} {q c st fl fe : Int} {dead : Bool} {vf : Value} {N L : Nat} {vt : Value} (h : DiskIs w D q c st fl fe dead vf N L vt) (i : Nat) (v : Value)
    (hv : (#[.int .i64 q, .int .i64 c, .int .i64 st, .int .i64 fl, .int .i64 fe, .bool dead, vf, .map (some N), .map (some L), vt] : Array Value)[i]? = some v) : w.cell? ⟨D, i, none⟩ = some v := by
  unfold DiskIs at h
  simp only [World.cell?, h]
  exact hv
theorem DiskIs.frozen {w : World} {D : Nat} {q c st fl fe : Int} {dead : Bool} {vf : Value} {N L : Nat} {vt : Value} (h : DiskIs w D q c st fl fe dead vf N L vt) (i : Nat) : w.frozen? ⟨D, i, none⟩ = false := by
  unfold DiskIs at h
  simp [World.frozen?, h]

theorem DiskIs.of_block {w w' : World} {D : Nat} {q c st fl fe : Int} {dead : Bool} {vf : Value} {N L : Nat} {vt : Value} (h : DiskIs w D q c st fl fe dead vf N L vt) (e : w'.heap[D]? = w.heap[D]?) : DiskIs w' D q c st fl fe dead vf N L vt := e.trans h
theorem DiskIs.lt {w : World} {D : Nat} {q c st fl fe : Int} {dead : Bool} {vf : Value} {N L : Nat} {vt : Value} (h : DiskIs w D q c st fl fe dead vf N L vt) : D < w.heap.size := (Array.getElem?_eq_some_iff.1 h).1
theorem DiskIs.alloc {w : World} {D : Nat} {q c st fl fe : Int} {dead : Bool} {vf : Value} {N L : Nat} {vt : Value} (h : DiskIs w D q c st fl fe dead vf N L vt) (o : Obj) : DiskIs (w.alloc o) D q c st fl fe dead vf N L vt := h.of_block (Below.heap_alloc _ _ D h.lt)
theorem cells_set {w : World} {D : Nat} {cs : Array Value} {t : TypeId} (h : w.heap[D]? = some (.cells cs t (0, 0))) (i : Nat) (v : Value) : (w.setCell ⟨D, i, none⟩ v).heap[D]? = some (.cells (cs.setIfInBounds i v) t (0, 0)) := by
  simp [World.setCell, Array.getElem?_modify, h]
theorem DiskIs.calls {w : World} {D : Nat} {q c st fl fe : Int} {dead : Bool} {vf : Value} {N L : Nat} {vt : Value} (h : DiskIs w D q c st fl fe dead vf N L vt) (c' : Int) : DiskIs (w.setCell ⟨D, 1, none⟩ (.int .i64 c')) D q c' st fl fe dead vf N L vt := cells_set h 1 _

set_option maxRecDepth 100000 in
theorem call_plain (w : World) (D F : Nat) (caps : Array Value) (q c st fe : Int) (vf : Value) (N L : Nat) (vt : Value) (hD : DiskIs w D q c st 0 fe false vf N L vt) (hc : 0 ≤ c ∧ c ≤ 1000000) (hst : st ≤ 0)
    (hcf : ∀ A W, (callFunc F A).run Try.prog W = .ok (.enter F A) W) (R : Value → World → Prop)
    (hdo : Calls Try.prog F caps ((w.setCell ⟨D, 1, none⟩ (.int .i64 (c + 1))).alloc (.cells #[.pointer (some ⟨D, 0, none⟩)] 23)) fun e w' => ∃ v, e = .returned v ∧ R v w') :
    Calls Try.prog 33 #[.pointer (some ⟨D, 0, none⟩), .func (.func F) #[] caps] w fun e w' => ∃ v, e = .returned v ∧ R v w' := by
  have h0 := hD.alloc (.cells #[.pointer (some ⟨D, 0, none⟩)] 23)
  have h1 := (hD.calls (c + 1)).alloc (.cells #[.pointer (some ⟨D, 0, none⟩)] 23)
  have c1 : (w.alloc (.cells #[.pointer (some ⟨D, 0, none⟩)] 23)).cell? ⟨D, 1, none⟩ = some (.int .i64 c) := h0.cell 1 _ rfl
  have f1 := h0.frozen 1
  have c2 : ((w.setCell ⟨D, 1, none⟩ (.int .i64 (c + 1))).alloc (.cells #[.pointer (some ⟨D, 0, none⟩)] 23)).cell? ⟨D, 2, none⟩ = some (.int .i64 st) := h1.cell 2 _ rfl
  have c3 : ((w.setCell ⟨D, 1, none⟩ (.int .i64 (c + 1))).alloc (.cells #[.pointer (some ⟨D, 0, none⟩)] 23)).cell? ⟨D, 3, none⟩ = some (.int .i64 0) := h1.cell 3 _ rfl
  have c5 : ((w.setCell ⟨D, 1, none⟩ (.int .i64 (c + 1))).alloc (.cells #[.pointer (some ⟨D, 0, none⟩)] 23)).cell? ⟨D, 5, none⟩ = some (.bool false) := h1.cell 5 _ rfl
  have hlt := hD.lt
  have HD := Lib.hid hdo
  clear hdo hD h0 h1
  go_enter Try.func33, Try.ntmps33
  go_wp2_with fail
  refine HD.out.mono ?_
  rintro e w' ⟨v, rfl, hR⟩
  go_wp2
  go_ret
  exact ⟨v, rfl, hR⟩
end Go.Proofs.Ytebkgkaihjoamaa
