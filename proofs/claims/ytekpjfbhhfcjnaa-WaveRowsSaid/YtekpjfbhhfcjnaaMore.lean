/- What holds of Vecs and of slices in later worlds; the finders' answers are one number alone. -/
import Derived.Test.YtekpjfbhhfcjnaaAt
namespace Go.Proofs.Ytekpjfbhhfcjnaa
open Go.RowKit Go.Proofs

theorem BoolsAt.below {w w' : World} {p : Option Addr} {bs : List Bool} (h : BoolsAt w p bs) (hB : Below w.heap.size w w') : BoolsAt w' p bs := by
  rcases h with rfl | ⟨b, off, rfl, hb, hc⟩
  · exact .inl rfl
  · exact .inr ⟨b, off, rfl, Nat.lt_of_lt_of_le hb hB.size, fun i hi => (hB.cell (p := ⟨b, off + i, none⟩) hb).trans (hc i hi)⟩
theorem VecAt.keep {w w' : World} {b g h : Nat} {bs : List Bool} (v : VecAt w b g h bs) (hB : Below w.heap.size w w') : VecAt w' b g h bs := by
  obtain ⟨l1, l2, l3⟩ := v.lt
  exact v.below l1 l2 l3 hB
theorem below_step {w w1 w2 : World} (h : Below w.heap.size w w1) (h2 : Below w1.heap.size w1 w2) : Below w.heap.size w w2 := h.trans (h2.mono h.size)

/-- what a place's finder tells is one number alone -/
theorem Found.unique {r r' : Nat → Nat} {n : Nat} {k i j : Int} (hm : ∀ a b, a ≤ b → b ≤ n → r a ≤ r b) (he : ∀ a, a ≤ n → r a = r' a) (h : Found r n k i) (h' : Found r' n k j) : i = j := by
  have hn := he n (Nat.le_refl _)
  rcases h with ⟨h1, rfl⟩ | ⟨h0, p, hp, rfl, h1, h2⟩ <;> rcases h' with ⟨h1', rfl⟩ | ⟨h0', q, hq, rfl, h1', h2'⟩
  · rfl
  · have e1 := he (q + 1) (by omega)
    have := hm (q + 1) n (by omega) (Nat.le_refl _)
    omega
  · have := hm (p + 1) n (by omega) (Nat.le_refl _)
    omega
  · have e1 := he q (by omega)
    have e2 := he (q + 1) (by omega)
    by_cases hpq : p = q
    · rw [hpq]
    · by_cases hlt : p < q
      · have := hm (p + 1) q (by omega) (by omega)
        omega
      · have := hm (q + 1) p (by omega) (by omega)
        omega
theorem onesAt_mono (bs : List Bool) {i j : Nat} (h : i ≤ j) : onesAt bs i ≤ onesAt bs j := cnt_take_mono bs h

theorem placesTo_length (bs : List Bool) : ∀ k, (placesTo bs k).length = onesAt bs k
  | 0 => by simp [placesTo, onesAt, cnt]
  | k + 1 => by
    rw [onesAt_succ, ← placesTo_length bs k]
    cases hb : (bs[k]?).getD false
    · rw [placesTo_miss bs k hb]; rfl
    · rw [placesTo_hit bs k hb]; simp

section
variable {w : World} {b g h : Nat} {bs : List Bool} (hv : VecAt w b g h bs)
include hv
theorem rank_cl (i : Int) : Calls Try.prog 12 #[.pointer (some ⟨b, 0, none⟩), .int .i64 i] w fun e w' => e = .returned (.int .i64 (onesAt bs (clampN i bs.length) : Nat)) ∧ ∃ n, w' = w.drewN n := rank_any w b g h _ hv i
theorem zeros_cl (i : Int) : Calls Try.prog 13 #[.pointer (some ⟨b, 0, none⟩), .int .i64 i] w fun e w' => e = .returned (.int .i64 (zerosAt bs (clampN i bs.length) : Nat)) ∧ ∃ n, w' = w.drewN n := by
  have h2 := cnt_take_le bs (clampN i bs.length)
  exact (zeros_any w b g h _ hv i).mono fun e w' ⟨he, hw⟩ => ⟨he.trans (ret_int (by unfold zerosAt; omega)), hw⟩
/-- ones, as many as there are -/
theorem ones_all : Calls Try.prog 18 #[.pointer (some ⟨b, 0, none⟩), .int .i64 1048576] w (MadeOnes (placesTo bs bs.length) w) := by
  have := ones_any b g h bs 1048576 (by omega) w hv
  rwa [List.take_of_length_le (by rw [placesTo_length]; have := onesAt_le bs bs.length; have := hv.len; omega)] at this
end

/-- an own row of ints reads as a slice -/
theorem ints_of_owns {w : World} {base : Nat} {v : Value} {ps : List Nat} (h : w.ownsRow base 3 1 v ps.length (ps.map fun x : Nat => Value.int .i64 (x : Int))) :
    ∃ p cap, v = .slice p ps.length cap ∧ (ps = [] ∨ ∃ g, p = some ⟨g, 0, none⟩ ∧ base ≤ g ∧ g < w.heap.size ∧ ∀ i, i < ps.length → w.cell? ⟨g, i, none⟩ = some (.int .i64 ((ps[i]?).getD 0 : Nat))) := by
  rcases h.2 with ⟨rfl, h0⟩ | ⟨g, cap, cur, rfl, hg, hh, hn, hcap, hsz, htake⟩
  · exact ⟨none, 0, by rw [h0], .inl (List.length_eq_zero_iff.1 h0)⟩
  · refine ⟨_, cap, rfl, .inr ⟨g, rfl, hg, (Array.getElem?_eq_some_iff.1 hh).1, fun i hi => ?_⟩⟩
    have := h.cells (g := g) rfl i (.int .i64 (ps[i] : Nat)) (by simp [hi])
    rw [show ((⟨g, 0, none⟩ : Addr).add i) = ⟨g, i, none⟩ from by cases i <;> simp [Addr.add]] at this
    rw [this]; simp [hi]
end Go.Proofs.Ytekpjfbhhfcjnaa
