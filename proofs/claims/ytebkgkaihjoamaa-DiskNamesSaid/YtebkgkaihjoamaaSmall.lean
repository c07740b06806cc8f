/- Deferred or not: more contracts of disk.Disk: Calls, Dead, Size's ask. -/
import Derived.Test.YtebkgkaihjoamaaCall
import Derived.Test.YtebkgkaihjoamaaName
namespace Go.Proofs.Ytebkgkaihjoamaa
open Go.RowKit Go.Proofs

theorem calls_any {w : World} {D : Nat} {q c st fl fe : Int} {dead : Bool} {vf : Value} {N L : Nat} {vt : Value} (h : DiskIs w D q c st fl fe dead vf N L vt) :
    Calls Try.prog 19 #[.pointer (some ⟨D, 0, none⟩)] w fun e w' => e = .returned (.int .i64 c) ∧ w = w' := by
  have c1 : w.cell? ⟨D, 1, none⟩ = some (.int .i64 c) := h.cell 1 _ rfl
  go_enter Try.func19, Try.ntmps19
  go_wp2
  go_ret
  exact ⟨rfl, rfl⟩
theorem dead_any {w : World} {D : Nat} {q c st fl fe : Int} {dead : Bool} {vf : Value} {N L : Nat} {vt : Value} (h : DiskIs w D q c st fl fe dead vf N L vt) :
    Calls Try.prog 29 #[.pointer (some ⟨D, 0, none⟩)] w fun e w' => e = .returned (.bool dead) ∧ w = w' := by
  have c1 : w.cell? ⟨D, 5, none⟩ = some (.bool dead) := h.cell 5 _ rfl
  go_enter Try.func29, Try.ntmps29
  go_wp2
  go_ret
  exact ⟨rfl, rfl⟩

set_option maxRecDepth 100000 in
theorem new_any (w : World) (q : Int) (hq : 0 ≤ q) : Calls Try.prog 12 #[.int .i64 q] w fun e w' => e = .returned (.pointer (some ⟨w.heap.size + 1 + 1, 0, none⟩)) ∧
    DiskIs w' (w.heap.size + 1 + 1) q 0 (-1) 0 0 false (.slice none 0 0) w.heap.size (w.heap.size + 1) (.slice none 0 0) ∧ NamesAt w' w.heap.size 0 (.map []) ∧ NamesAt w' (w.heap.size + 1) 0 (.map []) ∧ w.grownBy w' none ∧ w'.heap.size = w.heap.size + 3 := by
  have hmk : ∀ W : World, (Instr.makeMap 56 none).run Try.prog W = .ok (.map (some W.heap.size)) (W.alloc (.map #[] 0)) := fun _ => rfl
  go_enter Try.func12, Try.ntmps12
  go_wp2
  go_ret
  have h1 := World.ownsMap_made (H := Unit) w Try.prog 9 Rp
  have h2 := World.ownsMap_made (H := Unit) (w.alloc (.map #[] 0)) Try.prog 9 Rp
  rw [World.size_alloc] at h2
  refine ⟨rfl, ?_, (h1.alloc _).alloc _, h2.alloc _, ?_, by simp⟩
  · have := (MapKept.heap_alloc ((w.alloc (.map #[] 0)).alloc (.map #[] 0)) (.cells #[.int .i64 q, .int .i64 0, .int .i64 (-1), .int .i64 0, .int .i64 0, .bool false, .slice none 0 0, .map (some w.heap.size), .map (some (w.heap.size + 1)), .slice none 0 0] 60)).1
    simp only [World.size_alloc] at this
    exact this
  · exact ((World.grownBy_alloc w _ none).trans (World.grownBy_alloc _ _ none)).trans (World.grownBy_alloc _ _ none)
end Go.Proofs.Ytebkgkaihjoamaa
