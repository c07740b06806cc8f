/- A Crash of a disk with one file, whose name lasts. -/
import Derived.Test.YtebkgkaihjoamaaOneH
namespace Go.Proofs.Ytebkgkaihjoamaa
open Go.RowKit Go.Proofs

/-- the one file's name lasts, and nothing was done to names since -/
structure Firm (S : St) (s : ByteArray) (f : Nat) : Prop where
  ls : S.ls = .map [(skey s, litF f)]
  ts : S.ts = []
theorem crash_one {base D : Nat} {w w' : World} {S : St} {s : ByteArray} {f last : Nat} {b : List UInt8} {files : List Int} {names : List Bool} (o : One S s f b last) (fm : Firm S s f) (h : Crashed base w D S files names w') :
    Below base w w' ∧ ∃ k S', last ≤ k ∧ k ≤ b.length ∧ (files = [] → k = b.length) ∧ DX base w' D S' ∧ One S' s f (b.take k) k ∧ Firm S' s f ∧ S'.Plain ∧ S'.c = S.c ∧ S'.q = S.q := by
  obtain ⟨hb, m, Cx, es, hm, hmf, _, hnow, hC, hX⟩ := h
  have hf : f ∈ S.fs := by rw [o.fs]; simp
  have hes : es = [(skey s, litF f)] := by
    rw [fm.ts] at hnow
    have h1 : S.ls = .map es := hnow
    rw [fm.ls] at h1
    cases h1
    rfl
  subst hes
  have hfC : f ∈ Cx := (hC f).2 ⟨_, List.mem_singleton.2 rfl, rfl⟩
  obtain ⟨h1, h2⟩ := hm f hf
  rw [o.con] at h1 h2
  refine ⟨hb, m f, _, h1, h2, fun e => by have := hmf e f hf; rwa [o.con] at this, hX, ⟨rfl, ?_, ?_⟩, ⟨rfl, rfl⟩, ⟨rfl, rfl, by simp [St.crashed, St.kept, St.refile, St.renewed]⟩, rfl, rfl⟩
  · show stay Cx S.fs = [f]
    rw [o.fs]
    unfold stay
    simp [hfC]
  · show (((S.con f).1.take (m f)).take ((S.con f).1.take (m f)).length, if f ∈ Cx then ((S.con f).1.take (m f)).length else (S.con f).2) = _
    rw [List.take_length, if_pos hfC, o.con]
    rw [List.length_take, Nat.min_eq_left h2]
/-- a slice that came in, where a call is handed it later -/
theorem came_arg {w W : World} {X : List Nat} {p : Option Addr} {n cap : Nat} {xs : List Value} (h : Came w p n cap xs) (hB : Below w.heap.size w W) (hX : ∀ f ∈ X, w.heap.size ≤ f) : Arg W X (.slice p n cap) xs := by
  obtain ⟨h1, _, _, h4⟩ := h
  rcases h4 with h4 | ⟨g, o, rfl, hg, hc⟩
  · refine .inr ⟨List.length_eq_zero_iff.1 (by omega), p, cap, by rw [h4]⟩
  · refine .inl ⟨.inr ⟨g, o, cap, by rw [h1], Nat.lt_of_lt_of_le hg hB.size, fun j u hj => ?_⟩, fun g' e hm => ?_⟩
    · have e : ∀ (a b : Nat), ((⟨g, a, none⟩ : Addr).add b) = ⟨g, a + b, none⟩ := fun a b => by unfold Addr.add; split <;> simp_all
      rw [e]
      exact (hB.cell (p := ⟨g, o + j, none⟩) hg).trans (hc j u hj)
    · have e1 : g = g' := by simpa [Value.rowBlock] using e
      have := hX g' hm
      omega
theorem came_cap {w : World} {p : Option Addr} {n cap : Nat} {xs : List Value} (h : Came w p n cap xs) : ∀ p' n' c', Value.slice p n cap = .slice p' n' c' → n' ≤ c' := fun _ _ _ e => by cases e; exact h.2.2.1
theorem DX.files_at {base D : Nat} {w : World} {S : St} (h : DX base w D S) : ∀ f ∈ S.fs, base ≤ f := fun f hf => by
  obtain ⟨_, _, _, h3⟩ := h.cells hf
  exact h3
theorem slice_head (w : World) (l : List UInt8) (h : Nat) (y : Int) (hy : y = h) (hh : h ≤ l.length) : (Instr.slice 9 (.string (textOf l)) none (some (.int .i64 y)) none).run Try.prog w = .ok (.string (textOf (l.take h))) w := by
  subst hy
  have e := text_extract l 0 h
  simp at e
  simp [Instr.slice, run_underlying Try.underlying9, Instr.sliceBounds, Instr.sliceBound, Result.andThen, go_sem, e, hh]
end Go.Proofs.Ytebkgkaihjoamaa
