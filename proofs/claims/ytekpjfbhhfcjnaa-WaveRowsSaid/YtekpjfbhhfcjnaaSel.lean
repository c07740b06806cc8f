/- Plain facts of places and of two rows apart; the contract of BitsTells' inner finder. -/
import Derived.Test.YtekpjfbhhfcjnaaSame
namespace Go.Proofs.Ytekpjfbhhfcjnaa
open Go.RowKit Go.Proofs

theorem not_ones (bs : List Bool) : ∀ i, i ≤ bs.length → onesAt (bs.map (!·)) i = zerosAt bs i
  | 0, _ => by simp [onesAt, zerosAt, cnt]
  | i + 1, h => by
    rw [onesAt_succ, zerosAt_succ, not_ones bs i (by omega)]
    simp [show i < bs.length by omega]

/-- two rows do not lie in one block -/
def Apart (a b : Value) : Prop := ∀ g, a.ownBlock = some g → b.ownBlock ≠ some g
theorem Apart.symm {a b : Value} (h : Apart a b) : Apart b a := fun g h1 h2 => h g h2 h1
theorem Apart.keeps {a b : Value} (h : Apart a b) : b.ownBlock = none ∨ b.ownBlock ≠ a.ownBlock := by
  cases hb : b.ownBlock with
  | none => exact .inl rfl
  | some g => exact .inr fun e => h g e.symm hb
theorem Apart.next {w : World} {base : Nat} {e : TypeId} {size n : Nat} {xs : List Value} {a a' b : Value} (h : Apart a b) (hb : w.ownsRow base e size b n xs) (ha : a'.ownBlock = a.ownBlock ∨ ∃ m, w.heap.size ≤ m ∧ a'.ownBlock = some m) : Apart a' b := by
  intro g hg
  rcases ha with e | ⟨m, hm, e⟩
  · exact h g (e ▸ hg)
  · intro h2
    have := (hb.lt g h2).2
    rw [e] at hg
    simp at hg
    omega

/-- the k-th of some places, or -1 -/
def selOf (ps : List Nat) (k : Int) : Int := if 0 ≤ k ∧ k < ps.length then ((ps[k.toNat]?).getD 0 : Nat) else -1
theorem places_nth (bs : List Bool) : ∀ n i, i < (placesTo bs n).length → ∃ p, (placesTo bs n)[i]? = some p ∧ p < n ∧ onesAt bs p = i ∧ (bs[p]?).getD false = true
  | 0, i, h => by simp [placesTo] at h
  | n + 1, i, h => by
    cases hb : (bs[n]?).getD false
    · rw [placesTo_miss bs n hb] at h ⊢
      obtain ⟨p, h1, h2, h3⟩ := places_nth bs n i h
      exact ⟨p, h1, by omega, h3⟩
    · rw [placesTo_hit bs n hb] at h ⊢
      by_cases hi : i < (placesTo bs n).length
      · obtain ⟨p, h1, h2, h3⟩ := places_nth bs n i hi
        exact ⟨p, by rw [List.getElem?_append_left hi]; exact h1, by omega, h3⟩
      · simp at h
        obtain rfl : i = (placesTo bs n).length := by omega
        exact ⟨n, by simp, by omega, (placesTo_length bs n).symm, hb⟩
theorem selOf_found (bs : List Bool) (n : Nat) (k : Int) : Found (onesAt bs) n k (selOf (placesTo bs n) k) := by
  unfold selOf
  by_cases h : 0 ≤ k ∧ k < (placesTo bs n).length
  · rw [if_pos h]
    obtain ⟨p, h1, h2, h3, h4⟩ := places_nth bs n k.toNat (by omega)
    refine .inr ⟨h.1, p, h2, by rw [h1]; rfl, by omega, ?_⟩
    rw [onesAt_succ, h4]
    simp
    omega
  · rw [if_neg h, placesTo_length] at *
    exact .inl ⟨by omega, rfl⟩

theorem sel_fn (w : World) (p : Option Addr) (c : Nat) (ps : List Nat) (k : Int) (h : IntsAt w p ps) (hps : ps.length ≤ 9223372036854775807) :
    Calls Try.prog 21 #[.slice p ps.length c, .int .i64 k] w fun e w' => e = .returned (.int .i64 (selOf ps k)) ∧ w = w' := by
  by_cases hk : 0 ≤ k ∧ k < ps.length
  · obtain ⟨h0, h1⟩ := hk
    obtain ⟨m, rfl⟩ := Int.eq_ofNat_of_zero_le h0
    have hm : m < ps.length := by omega
    rcases h with rfl | ⟨b, off, rfl, _, hc⟩
    · simp at hm
    have hcell := hc m hm
    have HS := Lib.hid (show selOf ps m = ((ps[m]?).getD 0 : Nat) by unfold selOf; rw [if_pos ⟨h0, h1⟩]; rfl)
    generalize (ps[m]?).getD 0 = x at *
    clear hc h1
    go_enter Try.func21, Try.ntmps21
    go_wp2
    go_ret
    exact ⟨by rw [HS.out]; rfl, rfl⟩
  · have HS := Lib.hid (show selOf ps k = -1 by unfold selOf; rw [if_neg hk])
    by_cases h0 : 0 ≤ k
    all_goals
      go_enter Try.func21, Try.ntmps21
      go_wp2
      go_ret
      exact ⟨by rw [HS.out]; rfl, rfl⟩
end Go.Proofs.Ytekpjfbhhfcjnaa
