/- Maps of the disk: names that lead to files; sets of files. -/
import Derived.Test.YtebkgkaihjoamaaGen
import Derived.Maps.Own
import Derived.Maps.RangeWalk
import Derived.LaidEqlPtr
namespace Go.Proofs.Ytebkgkaihjoamaa
open Go.RowKit Go.Proofs Go.ChangeMaps

theorem info64 : (Try.prog.info? 64).map (fun i => (i.size, i.bytes)) = some (2, 32) := by kernel_rfl

/-- a file's pointer -/
abbrev fptr (f : Nat) : Value := .pointer (some ⟨f, 0, none⟩)
/-- block b is some cells, none frozen -/
def IsCells (w : World) (b : Nat) : Prop := ∃ c t, w.heap[b]? = some (.cells c t (0, 0))

theorem equal_ptr (w : World) (a b : Nat) (ha : IsCells w a) (hb : IsCells w b) : (Op.equal 62 (fptr a) (fptr b)).run Try.prog w = .ok (a == b) w := by
  obtain ⟨j, hj⟩ : ∃ j, Try.prog.info? 64 = some j := by cases h : Try.prog.info? 64 with | none => have := info64; rw [h] at this; cases this | some j => exact ⟨j, rfl⟩
  have hs : j.size = 2 := by have := info64; rw [hj] at this; simp at this; exact this.1
  obtain ⟨ca, ta, ha⟩ := ha
  obtain ⟨cb, tb, hb⟩ := hb
  by_cases e : a = b
  · subst e
    have h : ∀ d : Nat, (Op.equalIn (d + 1) 62 (fptr a) (fptr a)).run Try.prog w = .ok true w := fun d => by
      simp [Op.equalIn, run_underlying Try.underlying62, sizeOf, typeInfo, hj, run_sameAddr_same]
    simpa [Op.equal, Op.maxDepth] using h 9999
  · have h : ∀ d : Nat, (Op.equalIn (d + 1) 62 (fptr a) (fptr b)).run Try.prog w = .ok false w := fun d => by
      simp [Op.equalIn, run_underlying Try.underlying62, sizeOf, typeInfo, hj, hs, run_sameAddr_other w (a := ⟨a, 0, none⟩) (b := ⟨b, 0, none⟩) (by simp) ha hb]
    rw [show (a == b) = false by simpa using e]
    simpa [Op.equal, Op.maxDepth] using h 9999

/-- the place of a file among entries -/
theorem findAsking_ptr (w : World) (f : Nat) (hf : IsCells w f) : ∀ (es : List MapEntry) (S : List Nat) (i : Nat), es.map (fun e => (e.key, e.val)) = S.map (fun g => (fptr g, Value.bool true)) → (∀ g ∈ S, IsCells w g) →
    ∃ r, (Instr.findAsking 62 (fptr f) es i).run Try.prog w = .ok r w ∧ ((f ∈ S ∧ ∃ j, r = some (i + j, .bool true) ∧ (es[j]?).map (·.key) = some (fptr f)) ∨ (f ∉ S ∧ r = none))
  | [], S, i, h, _ => by
    obtain rfl : S = [] := by simpa using h.symm
    exact ⟨none, by simp [Instr.findAsking], .inr ⟨by simp, rfl⟩⟩
  | e :: es, [], i, h, _ => by simp at h
  | e :: es, g :: S, i, h, hS => by
    simp only [List.map_cons, List.cons.injEq, Prod.mk.injEq] at h
    obtain ⟨⟨hk, hv⟩, ht⟩ := h
    have he := equal_ptr w f g hf (hS g (by simp))
    by_cases e1 : f = g
    · subst e1
      refine ⟨some (i, .bool true), ?_, .inl ⟨by simp, 0, rfl, by simp [hk]⟩⟩
      rw [Instr.findAsking]
      simp [Sem.run_bind, hk, he, hv, Result.andThen]
    · obtain ⟨r, hr, h2⟩ := findAsking_ptr w f hf es S (i + 1) ht (fun x hx => hS x (by simp [hx]))
      refine ⟨r, ?_, ?_⟩
      · rw [Instr.findAsking]
        simp [Sem.run_bind, hk, he, show (f == g) = false by simpa using e1, Result.andThen, hr]
      · rcases h2 with ⟨h3, j, rfl, h4⟩ | ⟨h3, rfl⟩
        · exact .inl ⟨by simp [h3], j + 1, by rw [show i + 1 + j = i + (j + 1) by omega], by simpa using h4⟩
        · exact .inr ⟨by simp [h3, e1], rfl⟩
theorem findKey_ptr (w : World) (f : Nat) (hf : IsCells w f) (es : List MapEntry) (S : List Nat) (h : es.map (fun e => (e.key, e.val)) = S.map (fun g => (fptr g, Value.bool true))) (hS : ∀ g ∈ S, IsCells w g) :
    ∃ r, (Instr.findKey 62 (fptr f) es).run Try.prog w = .ok r w ∧ ((f ∈ S ∧ ∃ j, r = some (j, .bool true) ∧ (es[j]?).map (·.key) = some (fptr f)) ∨ (f ∉ S ∧ r = none)) := by
  unfold Instr.findKey
  cases es with
  | nil =>
    obtain rfl : S = [] := by simpa using h.symm
    exact ⟨none, by simp [run_underlying Try.underlying62, Instr.findNow, Result.andThen], .inr ⟨by simp, rfl⟩⟩
  | cons e es =>
    obtain ⟨r, hr, h2⟩ := findAsking_ptr w f hf (e :: es) S 0 h hS
    refine ⟨r, ?_, by simpa using h2⟩
    simp [Sem.run_bind, run_underlying Try.underlying62, Instr.findNow, Instr.sameNow, Result.andThen, hr]

/-- block b is the set of the files S -/
def SetAt (w : World) (b : Nat) (S : List Nat) : Prop :=
  ∃ es clock, w.heap[b]? = some (.map es clock) ∧ es.toList.map (fun e => (e.key, e.val)) = S.map (fun g => (fptr g, Value.bool true))
theorem SetAt.made (w : World) : SetAt (w.alloc (.map #[] 0)) w.heap.size [] := ⟨#[], 0, (MapKept.heap_alloc w _).1, rfl⟩
theorem SetAt.lt {w : World} {b : Nat} {S : List Nat} (h : SetAt w b S) : b < w.heap.size := by
  obtain ⟨es, clock, hb, _⟩ := h
  exact (Array.getElem?_eq_some_iff.1 hb).1
theorem SetAt.of_block {w w' : World} {b : Nat} {S : List Nat} (h : SetAt w b S) (e : w'.heap[b]? = w.heap[b]?) : SetAt w' b S := by
  obtain ⟨es, clock, hb, h1⟩ := h
  exact ⟨es, clock, e.trans hb, h1⟩
theorem check_ptr (w : World) (f : Nat) (em : Bool) : (Instr.checkKey em 10000 62 (fptr f)).run Try.prog w = .ok () w := by
  unfold Instr.checkKey
  simp [Sem.run_bind, run_underlying Try.underlying62, Result.andThen]
theorem SetAt.look {w : World} {b : Nat} {S : List Nat} (h : SetAt w b S) (f : Nat) (hf : IsCells w f) (hS : ∀ g ∈ S, IsCells w g) :
    (Instr.lookup 72 (.map (some b)) (fptr f) false).run Try.prog w = .ok (.bool (S.contains f)) w := by
  obtain ⟨es, clock, hb, h1⟩ := h
  obtain ⟨r, hr, h2⟩ := findKey_ptr w f hf es.toList S h1 hS
  unfold Instr.lookup
  rcases h2 with ⟨h3, j, rfl, _⟩ | ⟨h3, rfl⟩
  · simp [Sem.run_bind, run_underlying Try.underlying72, MapKept.run_getObj_map hb, check_ptr, hr, Result.andThen, h3]
  · have hz : (zeroValue 4).run Try.prog w = .ok (.bool false) w := by kernel_rfl
    simp [Sem.run_bind, run_underlying Try.underlying72, MapKept.run_getObj_map hb, check_ptr, hr, Result.andThen, h3, hz]
theorem SetAt.put {w : World} {b : Nat} {S : List Nat} (h : SetAt w b S) (f : Nat) (hf : IsCells w f) (hS : ∀ g ∈ S, IsCells w g) :
    ∃ w', (Instr.mapUpdate 72 (.map (some b)) (fptr f) (.bool true)).run Try.prog w = .ok () w' ∧ SetAt w' b (if f ∈ S then S else S ++ [f]) ∧ w.grownBy w' (some b) ∧ w'.heap.size = w.heap.size := by
  obtain ⟨es, clock, hb, h1⟩ := h
  have hbl := (Array.getElem?_eq_some_iff.1 hb).1
  obtain ⟨r, hr, h2⟩ := findKey_ptr w f hf es.toList S h1 hS
  have hg : ∀ o : Obj, w.grownBy { w with heap := w.heap.setIfInBounds b o } (some b) := fun o => ⟨rfl, rfl, rfl, by simp, fun i _ hi => by
    show (w.heap.setIfInBounds b o)[i]? = _
    rw [Array.getElem?_setIfInBounds, if_neg (fun e => hi (by rw [e]))]⟩
  unfold Instr.mapUpdate
  rcases h2 with ⟨h3, j, rfl, h4⟩ | ⟨h3, rfl⟩
  · obtain ⟨ej, hej, hkj⟩ : ∃ ej, es[j]? = some ej ∧ ej.key = fptr f := by simpa using h4
    have hsame : Instr.sameBits 10000 (((es[j]?).map (·.key)).getD (fptr f)) (fptr f) = true := by rw [hej]; simp [hkj, Instr.sameBits]
    refine ⟨{ w with heap := w.heap.setIfInBounds b (.map (es.modify j fun e => { e with key := fptr f, val := .bool true }) clock) }, ?_, ⟨_, _, by show (w.heap.setIfInBounds b _)[b]? = _; rw [Array.getElem?_setIfInBounds_self_of_lt hbl], ?_⟩, hg _, by simp⟩
    · simp [Sem.run_bind, run_underlying Try.underlying72, MapKept.run_getObj_map hb, check_ptr, hr, Result.andThen, Instr.keyThatStays, hsame, MapKept.run_setObj_map _ hb]
    · rw [if_pos h3, ← h1]
      apply List.ext_getElem?
      intro i
      simp only [List.getElem?_map, Array.getElem?_toList, Array.getElem?_modify]
      by_cases e : j = i
      · subst e
        have hv : ej.val = .bool true := by
          have := congrArg (·[j]?) h1
          simp only [List.getElem?_map, Array.getElem?_toList, hej, Option.map_some] at this
          cases hs : S[j]? with
          | none => rw [hs] at this; simp at this
          | some g => rw [hs] at this; simp at this; exact this.2
        simp [hej, hkj, hv]
      · rw [if_neg e]
  · refine ⟨{ w with heap := w.heap.setIfInBounds b (.map (es.push { key := fptr f, val := .bool true, born := clock }) (clock + 1)) }, ?_, ⟨_, _, by show (w.heap.setIfInBounds b _)[b]? = _; rw [Array.getElem?_setIfInBounds_self_of_lt hbl], ?_⟩, hg _, by simp⟩
    · simp [Sem.run_bind, run_underlying Try.underlying72, MapKept.run_getObj_map hb, check_ptr, hr, Result.andThen, MapKept.run_setObj_map _ hb]
    · rw [if_neg h3]
      simp [h1]
end Go.Proofs.Ytebkgkaihjoamaa
