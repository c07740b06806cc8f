/- Maps of names, told by the list of the names. -/
import Derived.Test.YtebkgkaihjoamaaSame
import Derived.Test.YtebkgkaihjoamaaBads
namespace Go.Proofs.Ytebkgkaihjoamaa
open Go.RowKit Go.Proofs Go.Maps

/-- the names of a map are those of l, each once -/
def NmIs (nm : DataW Unit) (l : List (List UInt8)) : Prop := ∃ es, nm = .map es ∧ (es.map fun p => p.1).Perm (l.map Lit.string)
theorem NmIs.none : NmIs (.map []) [] := ⟨[], rfl, List.Perm.refl _⟩
theorem NmIs.size {nm : DataW Unit} {l : List (List UInt8)} (h : NmIs nm l) : Maps.size nm = l.length := by
  obtain ⟨es, rfl, hp⟩ := h
  have := hp.length_eq
  simpa [Maps.size] using this
theorem NmIs.fresh {es : List (Lit × DataW Unit)} {l : List (List UInt8)} (hp : (es.map fun p => p.1).Perm (l.map Lit.string)) {t : List UInt8} (ht : t ∉ l) : ∀ p ∈ es, p.1.sameKey (.string t) = false := fun p hp2 => by
  refine sameKey_ne fun e => ht ?_
  have h1 : p.1 ∈ l.map Lit.string := hp.mem_iff.1 (List.mem_map.2 ⟨p, hp2, rfl⟩)
  rw [e] at h1
  obtain ⟨x, hx, e2⟩ := List.mem_map.1 h1
  cases e2
  exact hx
theorem NmIs.miss {nm : DataW Unit} {l : List (List UInt8)} (h : NmIs nm l) {t : List UInt8} (ht : t ∉ l) : fileOf nm t = noFile := by
  obtain ⟨es, rfl, hp⟩ := h
  refine atKey_of_not_has ?_ _
  rw [has_eq, List.any_eq_false]
  exact fun p hp2 => by rw [NmIs.fresh hp ht p hp2]; simp
theorem NmIs.put {nm : DataW Unit} {l : List (List UInt8)} (h : NmIs nm l) {t : List UInt8} (ht : t ∉ l) (d : DataW Unit) : NmIs (nm.put (.string t) d) (l ++ [t]) := by
  obtain ⟨es, rfl, hp⟩ := h
  refine ⟨_, rfl, ?_⟩
  have hfil : (es.filter fun p => !p.1.sameKey (.string t)) = es := List.filter_eq_self.2 fun p hp2 => by rw [NmIs.fresh hp ht p hp2]; rfl
  rw [hfil]
  refine ((WideShapes.insert_perm (Lit.string t, d) es).map _).trans ?_
  rw [List.map_append]
  exact (hp.cons _).trans (List.perm_append_singleton _ _).symm
theorem NmIs.keys {nm : DataW Unit} {l : List (List UInt8)} (h : NmIs nm l) : (strKeys nm).Perm l := by
  obtain ⟨es, rfl, hp⟩ := h
  have h1 := hp.map strOf
  rw [List.map_map, List.map_map] at h1
  have h2 : (l.map (strOf ∘ Lit.string)) = l := by
    rw [show (strOf ∘ Lit.string) = id from rfl, List.map_id]
  rw [h2] at h1
  exact h1
/-- texts in order, from whatever order they were in -/
theorem sorted_is {ss l : List (List UInt8)} (h : ss.Perm l) (hl : l.Pairwise (fun x y => x ≤ y)) : ss.mergeSort (fun x y => decide (x ≤ y)) = l := by
  have h1 := mergeSort_of_perm h
  rw [h1]
  exact List.mergeSort_of_pairwise (hl.imp fun h => by simpa using h)
end Go.Proofs.Ytebkgkaihjoamaa
