/- What a slice of bytes that came in reads as. -/
import Derived.Test.YtekpjfbhhfcjnaaWaveRow
import Derived.Test.YtekpjfbhhfcjnaaOpens
namespace Go.Proofs.Ytekpjfbhhfcjnaa
open Go.RowKit Go.Proofs Go.ChangeShapes Go.WideShapes Go.ChangeAt Go.Deep

theorem bytes_in {H : Type} {enc : TypeId × Value → H} {w : World} {a0 : Option Addr} {len0 cap0 fuel : Nat} {held : Bool} {x : DataW H × List MemPlace}
    (h : DataW.trod enc Try.prog w 0 (fun _ => true) held fuel 40 [.slice a0 len0 cap0] = some x) : ∃ l : List Nat, len0 = l.length ∧ l.length ≤ 9223372036854775807 ∧ BytesAt w a0 l := by
  rcases open_ints Try.underlying40 Try.underlying5 (by kernel_rfl) h with ⟨hcs, _⟩ | ⟨⟨b, off, sp⟩, len, cap, zs, hcs, _, hl, hm, hzl, _, hcell, hwf⟩
  · simp at hcs
    obtain ⟨rfl, rfl, rfl⟩ := hcs
    exact ⟨[], rfl, by simp, .inl rfl⟩
  · simp at hcs
    obtain ⟨rfl, rfl, rfl⟩ := hcs
    simp at hzl
    refine ⟨(zs.take len0).map Int.toNat, by simp; omega, by simp; unfold maxLen at hm; omega, ?_⟩
    by_cases h0 : len0 = 0
    · subst h0; exact .inl (by simp)
    · have h1 := hcell 0 (by omega)
      have hsp : sp = none := by
        cases sp with
        | none => rfl
        | some s => simp [World.cell?, Addr.add] at h1; split at h1 <;> simp at h1
      subst hsp
      refine .inr ⟨b, off, rfl, World.block_lt_of_cell? w _ h1, fun i hi => ?_⟩
      simp at hi
      have h2 := hcell i (by omega)
      have hiz : i < zs.length := by omega
      have h3 := hwf zs[i] (List.getElem_mem hiz)
      have h4 : 0 ≤ zs[i] ∧ zs[i] < 256 := by
        simp only [Lit.wf, Bool.and_eq_true, decide_eq_true_eq, show IntKind.u8.min = 0 from rfl, show IntKind.u8.max = 255 from rfl] at h3
        omega
      rw [show ((⟨b, off, none⟩ : Addr).add i) = ⟨b, off + i, none⟩ from by cases i <;> simp [Addr.add]] at h2
      have e : (((zs.take len0).map Int.toNat)[i]?).getD 0 = zs[i].toNat := by
        rw [List.getElem?_map, List.getElem?_take, if_pos (by omega), List.getElem?_eq_getElem hiz]; rfl
      rw [e, h2]
      refine ⟨by omega, ?_⟩
      rw [List.getD_eq_getElem?_getD, List.getElem?_eq_getElem hiz]
      simp
      omega
end Go.Proofs.Ytekpjfbhhfcjnaa
