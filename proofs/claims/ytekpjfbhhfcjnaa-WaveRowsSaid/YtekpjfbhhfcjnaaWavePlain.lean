/- Plain facts of ranks, of places; what Select answers. -/
import Derived.Test.YtekpjfbhhfcjnaaWaveAwake
namespace Go.Proofs.Ytekpjfbhhfcjnaa
open Go.RowKit Go.Proofs

theorem cntC_one (c x : Nat) : cntC c [x] = if x = c then 1 else 0 := by
  by_cases h : x = c <;> simp [cntC, h]
theorem rankOf_succ (l : List Nat) (c : Int) (j : Nat) (hj : j < l.length) (hx : (l[j]?).getD 0 ≤ 256) : rankOf l c (j + 1) = rankOf l c j + if (((l[j]?).getD 0 : Nat) : Int) = c then 1 else 0 := by
  unfold rankOf
  rw [take_snoc l j hj]
  by_cases h : 0 ≤ c ∧ c ≤ 256
  · rw [if_pos h, if_pos h, cntC_append, cntC_one]
    congr 1
    by_cases e : (l[j]?).getD 0 = c.toNat
    · rw [if_pos e, if_pos (by omega)]
    · rw [if_neg e, if_neg (by omega)]
  · rw [if_neg h, if_neg h, if_neg (by omega)]
theorem rankOf_mono (l : List Nat) (c : Int) (hs : ∀ x ∈ l, x ≤ 256) {i j : Nat} (h : i ≤ j) (hj : j ≤ l.length) : rankOf l c i ≤ rankOf l c j := by
  induction j with
  | zero => obtain rfl : i = 0 := by omega
            exact Nat.le_refl _
  | succ j ih =>
    by_cases e : i = j + 1
    · rw [e]; exact Nat.le_refl _
    · rw [rankOf_succ l c j (by omega) (by rw [List.getElem?_eq_getElem (show j < l.length by omega)]; exact hs _ (by simp))]
      exact Nat.le_trans (ih (by omega) (by omega)) (Nat.le_add_right _ _)
theorem rankOf_le (l : List Nat) (c : Int) (i : Nat) : rankOf l c i ≤ i := by
  unfold rankOf
  split
  · exact Nat.le_trans (cntC_le _ _) (by simp; omega)
  · omega
theorem rankOf_zero (l : List Nat) (c : Int) : rankOf l c 0 = 0 := by have := rankOf_le l c 0; omega
theorem lessOf_succ (l : List Nat) (c : Int) (j : Nat) (hj : j < l.length) : lessOf l c (j + 1) = lessOf l c j + if (((l[j]?).getD 0 : Nat) : Int) < c then 1 else 0 := by
  unfold lessOf
  rw [take_snoc l j hj, List.filter_append, List.length_append]
  congr 1
  by_cases h : (((l[j]?).getD 0 : Nat) : Int) < c <;> simp [h]
theorem lessOf_le (l : List Nat) (c : Int) (i : Nat) : lessOf l c i ≤ i := by
  unfold lessOf
  exact Nat.le_trans (List.length_filter_le _ _) (by simp; omega)
theorem lessOf_zero (l : List Nat) (c : Int) : lessOf l c 0 = 0 := by have := lessOf_le l c 0; omega

/-- the place p holds c, and i of them lie ahead of it -/
def Hit (l : List Nat) (c i : Int) (p : Nat) : Prop := (((l[p]?).getD 0 : Nat) : Int) = c ∧ (rankOf l c p : Int) = i
def SelTo (l : List Nat) (c i : Int) (j : Nat) (s : Int) : Prop := (∃ p : Nat, p < j ∧ Hit l c i p ∧ s = p) ∨ (s = -1 ∧ ∀ p, p < j → ¬ Hit l c i p)
theorem SelTo.bound {l : List Nat} {c i s : Int} {j : Nat} (h : SelTo l c i j s) : -1 ≤ s ∧ s < j := by
  rcases h with ⟨p, hp, _, rfl⟩ | ⟨rfl, _⟩ <;> omega
theorem SelTo.hit {l : List Nat} {c i s : Int} {j : Nat} (_h : SelTo l c i j s) (h : Hit l c i j) : SelTo l c i (j + 1) j := .inl ⟨j, by omega, h, rfl⟩
theorem SelTo.miss {l : List Nat} {c i s : Int} {j : Nat} (h : SelTo l c i j s) (h' : ¬ Hit l c i j) : SelTo l c i (j + 1) s := by
  rcases h with ⟨p, hp, h1, h2⟩ | ⟨h1, h2⟩
  · exact .inl ⟨p, by omega, h1, h2⟩
  · refine .inr ⟨h1, fun p hp => ?_⟩
    by_cases e : p = j
    · rw [e]; exact h'
    · exact h2 p (by omega)
theorem hit_nth {l : List Nat} {c i : Int} {p : Nat} (hc : 0 ≤ c ∧ c ≤ 256) (hp : p < l.length) (h : Hit l c i p) : Nth l c.toNat i.toNat p := by
  obtain ⟨h1, h2⟩ := h
  unfold rankOf at h2
  rw [if_pos hc] at h2
  rw [List.getElem?_eq_getElem hp] at h1
  refine ⟨?_, by omega⟩
  rw [List.getElem?_eq_getElem hp]
  simp at h1 ⊢
  omega
theorem sel_done {w : World} {b : Nat} {l : List Nat} (m : MatAt w b l) (c i s : Int) (h : SelTo l c i l.length s) :
    Calls Try.prog 25 #[.pointer (some ⟨b, 0, none⟩), .int .i64 c, .int .i64 i] w fun e w' => e = .returned (.int .i64 s) ∧ ∃ n, w' = w.drewN n := by
  have hx : ∀ p, p < l.length → (l[p]?).getD 0 ≤ 256 := fun p hp => by rw [List.getElem?_eq_getElem hp]; exact m.sym _ (by simp)
  by_cases hi : i < 0 ∨ (rankOf l c l.length : Int) ≤ i
  · have hs : s = -1 := by
      rcases h with ⟨p, hp, ⟨h1, h2⟩, _⟩ | ⟨h1, _⟩
      · have h3 := rankOf_succ l c p hp (hx p hp)
        rw [if_pos h1] at h3
        have h4 := rankOf_mono l c m.sym (show p + 1 ≤ l.length from hp) (Nat.le_refl _)
        omega
      · exact h1
    rw [hs]
    exact select_miss m c i hi
  · have hc : 0 ≤ c ∧ c ≤ 256 := by
      by_cases hc : 0 ≤ c ∧ c ≤ 256
      · exact hc
      · unfold rankOf at hi; rw [if_neg hc] at hi; omega
    have hj : i.toNat < cntC c.toNat l := by
      unfold rankOf at hi; rw [if_pos hc, List.take_length] at hi; omega
    have := select_hit m c.toNat i.toNat (by omega) hj
    rw [show ((c.toNat : Nat) : Int) = c by omega, show ((i.toNat : Nat) : Int) = i by omega] at this
    refine this.mono ?_
    rintro e w' ⟨p, hp, rfl, hw⟩
    refine ⟨ret_int ?_, hw⟩
    rcases h with ⟨q, hq, h1, rfl⟩ | ⟨rfl, h2⟩
    · rw [Nth.unique (hit_nth hc hq h1) hp]
    · refine absurd ?_ (h2 p hp.lt)
      obtain ⟨h3, h4⟩ := hp
      unfold Hit rankOf
      rw [if_pos hc, h3, h4]
      simp
      omega
attribute [irreducible] SelTo Hit
end Go.Proofs.Ytekpjfbhhfcjnaa
