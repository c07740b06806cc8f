/- The contract of concordancelaw8.awake. -/
import Derived.Test.YtekpjfbhhfcjnaaWaveNew
namespace Go.Proofs.Ytekpjfbhhfcjnaa
open Go.RowKit Go.Proofs

theorem select_fix {w : World} {b : Nat} {l : List Nat} (m : MatAt w b l) (c j p : Nat) (hc : c ≤ 256) (hp : Nth l c j p) (hu : ∀ q, Nth l c j q → q = p) :
    Calls Try.prog 25 #[.pointer (some ⟨b, 0, none⟩), .int .i64 c, .int .i64 j] w fun e w' => e = .returned (.int .i64 p) ∧ ∃ n, w' = w.drewN n := by
  have hj : j < cntC c l := by
    obtain ⟨h1, h2⟩ := hp
    have hpl := (List.getElem?_eq_some_iff.1 h1).1
    have e : l = l.take p ++ [c] ++ l.drop (p + 1) := by
      rw [List.append_assoc, List.singleton_append, ← (List.getElem?_eq_some_iff.1 h1).2, List.getElem_cons_drop, List.take_append_drop]
    rw [e, cntC_append, cntC_append, h2]
    have : cntC c [c] = 1 := by simp [cntC]
    omega
  refine (select_hit m c j hc hj).mono ?_
  rintro e w' ⟨q, hq, rfl, hw⟩
  exact ⟨by rw [hu q hq], hw⟩
theorem Nth.unique {l : List Nat} {c j p q : Nat} (h : Nth l c j p) (h' : Nth l c j q) : q = p := by
  have key : ∀ {a b : Nat}, Nth l c j a → Nth l c j b → ¬ a < b := fun {a b} h h' hl => by
    obtain ⟨h1, h2⟩ := h
    have ha := (List.getElem?_eq_some_iff.1 h1)
    have e : l.take b = l.take a ++ [c] ++ (l.take b).drop (a + 1) := by
      have hb : a < (l.take b).length := by have := (List.getElem?_eq_some_iff.1 h'.1).1; simp; omega
      have e1 : (l.take b)[a]'hb = c := by rw [List.getElem_take]; exact ha.2
      have e2 : l.take a = (l.take b).take a := by rw [List.take_take]; congr 1; omega
      rw [List.append_assoc, List.singleton_append, ← e1, List.getElem_cons_drop, e2, List.take_append_drop]
    have h3 := h'.2
    rw [e, cntC_append, cntC_append, h2] at h3
    have : cntC c [c] = 1 := by simp [cntC]
    omega
  rcases Nat.lt_trichotomy p q with hl | hl | hl
  · exact absurd hl (key h h')
  · exact hl.symm
  · exact absurd hl (key h' h)

theorem waw_any (w : World) : Calls Try.prog 28 #[] w (IsTrue w) := by
  have HN := Lib.hid (mat_any (w.alloc (.cells #[.int .u16 5, .int .u16 1, .int .u16 5] 48)) w.heap.size (.slice (some ⟨w.heap.size, 0, none⟩) 3 3) [5, 1, 5] (by simp) (by intro x hx; simp at hx; omega)
    (World.ownsRow_lit w #[.int .u16 5, .int .u16 1, .int .u16 5] 3 (Nat.le_refl _) (by decide) rfl))
  have HB0 := Lib.hid ((Below.refl w.heap.size w).alloc (Nat.le_refl _) (.cells #[.int .u16 5, .int .u16 1, .int .u16 5] 48))
  go_enter Try.func28, Try.ntmps28
  go_wp2_with fail
  refine HN.out.mono ?_
  rintro e w1 ⟨b, rfl, hm, hB⟩
  have HB := Lib.hid (HB0.out.trans (hB.mono (by simp)))
  have HB1 := Lib.hid (HB.out.alloc HB.out.size (.cells #[.int .u16 257] 48))
  have HM := Lib.hid (hm.keep ((Below.refl w1.heap.size w1).alloc (Nat.le_refl _) (.cells #[.int .u16 257] 48)))
  have H257 := Lib.hid (new_257 (w1.alloc (.cells #[.int .u16 257] 48)) w1.heap.size (by rw [World.cell?_alloc_at _ _ _ _ rfl]; rfl))
  clear hm hB
  go_wp2_with fail
  refine H257.out.mono ?_
  generalize w1.alloc (.cells #[.int .u16 257] 48) = w2 at *
  rintro e w3 ⟨rfl, rfl⟩
  have HR : Hid (∀ j, Calls Try.prog 26 #[.pointer (some ⟨b, 0, none⟩), .int .i64 5, .int .i64 3] (w2.drewN j) fun e w' => e = .returned (.int .i64 2) ∧ ∃ n, w' = (w2.drewN j).drewN n) := fun j => by
    have := rank_mat (HM.out.drewN j) 5 3
    simpa [rankOf, clampN, cntC] using this
  have HS : Hid (∀ j, Calls Try.prog 25 #[.pointer (some ⟨b, 0, none⟩), .int .i64 5, .int .i64 1] (w2.drewN j) fun e w' => e = .returned (.int .i64 2) ∧ ∃ n, w' = (w2.drewN j).drewN n) := fun j => have hN : Nth [5, 1, 5] 5 1 2 := ⟨rfl, by simp [cntC]⟩; select_fix (HM.out.drewN j) 5 1 2 (by omega) hN fun q hq => Nth.unique hN hq
  have HL : Hid (∀ j, Calls Try.prog 30 #[.pointer (some ⟨b, 0, none⟩), .int .i64 5, .int .i64 3] (w2.drewN j) fun e w' => e = .returned (.int .i64 1) ∧ ∃ n, w' = (w2.drewN j).drewN n) := fun j => by
    have := less_mat (HM.out.drewN j) 5 3
    simpa [lessOf, clampN] using this
  have HG : Hid (∀ j, Calls Try.prog 27 #[.pointer (some ⟨b, 0, none⟩), .int .i64 1] (w2.drewN j) fun e w' => e = .returned (.int .i64 1) ∧ w2.drewN j = w') := fun j => by
    have := get_mat (HM.out.drewN j) 1
    simpa [symOf] using this
  have HC : Hid (∀ j, Calls Try.prog 24 #[.pointer (some ⟨b, 0, none⟩), .int .i64 5] (w2.drewN j) fun e w' => e = .returned (.int .i64 2) ∧ ∃ n, w' = (w2.drewN j).drewN n) := fun j => by
    have := count_mat (HM.out.drewN j) 5
    simpa [rankOf, cntC] using this
  go_wp2_with fail
  refine (HR.out 0).mono ?_
  rintro e w3 ⟨rfl, n0, rfl⟩
  go_wp2_with (first
    | (go_at_call 25; (with_reducible refine (HS.out _).mono ?_); rintro e w' ⟨rfl, n, rfl⟩)
    | (go_at_call 30; (with_reducible refine (HL.out _).mono ?_); rintro e w' ⟨rfl, n, rfl⟩)
    | (go_at_call 27; (with_reducible refine (HG.out _).mono ?_); rintro e w' ⟨rfl, rfl⟩)
    | (go_at_call 24; (with_reducible refine (HC.out _).mono ?_); rintro e w' ⟨rfl, n, rfl⟩))
  go_ret
  exact ⟨rfl, below_drewN HB1.out _⟩
end Go.Proofs.Ytekpjfbhhfcjnaa
