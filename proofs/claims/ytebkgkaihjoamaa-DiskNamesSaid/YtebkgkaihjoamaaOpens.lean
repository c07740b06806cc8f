/- What a slice of bools or of ints that came in reads as. -/
import Derived.Test.YtebkgkaihjoamaaMask
import Derived.Deep.Grids
import Derived.ProofKit
import Derived.OpenShut
import Derived.ChangeOld
namespace Go.Proofs.Ytebkgkaihjoamaa
open Go.RowKit Go.Proofs Go.ChangeShapes Go.WideShapes Go.ChangeAt Go.Deep

/-- a slice that came in: its elements can be read, or there are none; it has room for them -/
def Came (w : World) (a : Option Addr) (n cap : Nat) (xs : List Value) : Prop := n = xs.length ∧ n ≤ 9223372036854775807 ∧ n ≤ cap ∧ (n = 0 ∨ ∃ g o, a = some ⟨g, o, none⟩ ∧ g < w.heap.size ∧ ∀ j u, xs[j]? = some u → w.cell? ⟨g, o + j, none⟩ = some u)
theorem bools_in {H : Type} {enc : TypeId × Value → H} {w : World} {a0 : Option Addr} {len0 cap0 fuel : Nat} {held : Bool} {x : DataW H × List MemPlace}
    (h : DataW.trod enc Try.prog w 0 (fun _ => true) held fuel 22 [.slice a0 len0 cap0] = some x) : ∃ l : List Bool, len0 = l.length ∧ l.length ≤ 9223372036854775807 ∧ Came w a0 l.length cap0 (boolsV l) := by
  rcases open_bools Try.underlying22 Try.underlying4 (by kernel_rfl) h with ⟨hcs, _⟩ | ⟨⟨b, off, sp⟩, len, cap, B, hcs, _, hl, hm, _, hcell⟩
  · simp at hcs
    obtain ⟨rfl, rfl, rfl⟩ := hcs
    exact ⟨[], rfl, by simp, rfl, by simp, by simp, .inl rfl⟩
  · simp at hcs
    obtain ⟨rfl, rfl, rfl⟩ := hcs
    refine ⟨(List.range len0).map B, by simp, by simp; unfold maxLen at hm; omega, by simp [boolsV], by simp; unfold maxLen at hm; omega, by simpa using hl, ?_⟩
    by_cases h0 : len0 = 0
    · subst h0; exact .inl rfl
    · have h1 := hcell 0 (by omega)
      have hsp : sp = none := by
        cases sp with
        | none => rfl
        | some s => simp [World.cell?, Addr.add] at h1; split at h1 <;> simp at h1
      subst hsp
      refine .inr ⟨b, off, rfl, World.block_lt_of_cell? w _ h1, fun i u hi => ?_⟩
      have hil : i < len0 := by
        have := (List.getElem?_eq_some_iff.1 hi).1
        simpa [boolsV] using this
      have h2 := hcell i (by omega)
      rw [show ((⟨b, off, none⟩ : Addr).add i) = ⟨b, off + i, none⟩ from by cases i <;> simp [Addr.add]] at h2
      rw [h2]
      simp [boolsV, hil] at hi
      rw [← hi]
theorem ints_in {H : Type} {enc : TypeId × Value → H} {w : World} {a0 : Option Addr} {len0 cap0 fuel : Nat} {held : Bool} {x : DataW H × List MemPlace}
    (h : DataW.trod enc Try.prog w 0 (fun _ => true) held fuel 46 [.slice a0 len0 cap0] = some x) : ∃ l : List Int, len0 = l.length ∧ l.length ≤ 9223372036854775807 ∧ Came w a0 l.length cap0 (intsV l) := by
  rcases open_ints Try.underlying46 Try.underlying3 (by kernel_rfl) h with ⟨hcs, _⟩ | ⟨⟨b, off, sp⟩, len, cap, zs, hcs, _, hl, hm, hz, _, hcell, _⟩
  · simp at hcs
    obtain ⟨rfl, rfl, rfl⟩ := hcs
    exact ⟨[], rfl, by simp, rfl, by simp, by simp, .inl rfl⟩
  · simp at hcs
    obtain ⟨rfl, rfl, rfl⟩ := hcs
    simp only [if_true] at hz
    have hlt : (zs.take len0).length = len0 := by rw [List.length_take]; omega
    refine ⟨zs.take len0, by omega, by unfold maxLen at hm; omega, by simp [intsV], by unfold maxLen at hm; omega, by omega, ?_⟩
    by_cases h0 : len0 = 0
    · subst h0; exact .inl (by simp)
    · have h1 := hcell 0 (by omega)
      have hsp : sp = none := by
        cases sp with
        | none => rfl
        | some s => simp [World.cell?, Addr.add] at h1; split at h1 <;> simp at h1
      subst hsp
      refine .inr ⟨b, off, rfl, World.block_lt_of_cell? w _ h1, fun i u hi => ?_⟩
      have hil : i < len0 := by
        have := (List.getElem?_eq_some_iff.1 hi).1
        simp [intsV] at this
        omega
      have h2 := hcell i (by omega)
      rw [show ((⟨b, off, none⟩ : Addr).add i) = ⟨b, off + i, none⟩ from by cases i <;> simp [Addr.add]] at h2
      rw [h2]
      simp [intsV, hil] at hi
      obtain ⟨x, hx, rfl⟩ := hi
      simp [List.getD, hx]
end Go.Proofs.Ytebkgkaihjoamaa
