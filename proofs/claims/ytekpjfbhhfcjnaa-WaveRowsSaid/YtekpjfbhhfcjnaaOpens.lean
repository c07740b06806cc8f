/- What a slice of bools that came in reads as. -/
import Derived.Test.YtekpjfbhhfcjnaaAt
import Derived.Deep.Grids
import Derived.ProofKit
import Derived.OpenShut
import Derived.ChangeOld
namespace Go.Proofs.Ytekpjfbhhfcjnaa
open Go.RowKit Go.Proofs Go.ChangeShapes Go.WideShapes Go.ChangeAt Go.Deep

theorem bools_in {H : Type} {enc : TypeId × Value → H} {w : World} {a0 : Option Addr} {len0 cap0 fuel : Nat} {held : Bool} {x : DataW H × List MemPlace}
    (h : DataW.trod enc Try.prog w 0 (fun _ => true) held fuel 22 [.slice a0 len0 cap0] = some x) : ∃ l : List Bool, len0 = l.length ∧ l.length ≤ 9223372036854775807 ∧ BoolsAt w a0 l := by
  rcases open_bools Try.underlying22 Try.underlying4 (by kernel_rfl) h with ⟨hcs, _⟩ | ⟨⟨b, off, sp⟩, len, cap, B, hcs, _, hl, hm, _, hcell⟩
  · simp at hcs
    obtain ⟨rfl, rfl, rfl⟩ := hcs
    exact ⟨[], rfl, by simp, .inl rfl⟩
  · simp at hcs
    obtain ⟨rfl, rfl, rfl⟩ := hcs
    refine ⟨(List.range len0).map B, by simp, by simp; unfold maxLen at hm; omega, ?_⟩
    by_cases h0 : len0 = 0
    · subst h0; exact .inl rfl
    · have h1 := hcell 0 (by omega)
      have hsp : sp = none := by
        cases sp with
        | none => rfl
        | some s => simp [World.cell?, Addr.add] at h1; split at h1 <;> simp at h1
      subst hsp
      refine .inr ⟨b, off, rfl, World.block_lt_of_cell? w _ h1, fun i hi => ?_⟩
      have h2 := hcell i (by simp at hi; omega)
      rw [show ((⟨b, off, none⟩ : Addr).add i) = ⟨b, off + i, none⟩ from by cases i <;> simp [Addr.add]] at h2
      rw [h2]
      simp at hi
      simp [hi]
end Go.Proofs.Ytekpjfbhhfcjnaa
