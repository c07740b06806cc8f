/- The contract of concordancelaw7.awake: it answers true. -/
import Derived.Test.YtekpjfbhhfcjnaaOnesIt
namespace Go.Proofs.Ytekpjfbhhfcjnaa
open Go.RowKit Go.Proofs

/-! what awake asks -/
section
variable {w : World} {b g h : Nat} (hv : VecAt w b g h [true, false, true])
include hv
theorem aw_rank2 : Calls Try.prog 12 #[.pointer (some ⟨b, 0, none⟩), .int .i64 2] w fun e w' => e = .returned (.int .i64 1) ∧ ∃ n, w' = w.drewN n := by
  have := rank_any w b g h _ hv 2
  simpa [clampN, cnt] using this
theorem aw_zeros3 : Calls Try.prog 13 #[.pointer (some ⟨b, 0, none⟩), .int .i64 3] w fun e w' => e = .returned (.int .i64 1) ∧ ∃ n, w' = w.drewN n := by
  have := zeros_any w b g h _ hv 3
  simpa [clampN, cnt] using this
theorem aw_sel1 : Calls Try.prog 15 #[.pointer (some ⟨b, 0, none⟩), .int .i64 1] w fun e w' => e = .returned (.int .i64 2) ∧ ∃ n, w' = w.drewN n := by
  refine (select_any w b g h _ hv 1).mono ?_
  rintro e w' ⟨⟨j, rfl, hj⟩, hw⟩
  refine ⟨ret_int ?_, hw⟩
  rcases hj with ⟨h1, rfl⟩ | ⟨_, p, hp, rfl, h1, h2⟩
  · simp [onesAt, cnt] at h1
  · simp only [List.length_cons, List.length_nil] at hp
    have : p = 0 ∨ p = 1 ∨ p = 2 := by omega
    rcases this with rfl | rfl | rfl <;> simp [onesAt, cnt] at h1 h2 ⊢
theorem aw_sel2 : Calls Try.prog 15 #[.pointer (some ⟨b, 0, none⟩), .int .i64 2] w fun e w' => e = .returned (.int .i64 (-1)) ∧ ∃ n, w' = w.drewN n := by
  refine (select_any w b g h _ hv 2).mono ?_
  rintro e w' ⟨⟨j, rfl, hj⟩, hw⟩
  refine ⟨ret_int ?_, hw⟩
  rcases hj with ⟨h1, rfl⟩ | ⟨_, p, hp, rfl, h1, h2⟩
  · rfl
  · simp only [List.length_cons, List.length_nil] at hp
    have : p = 0 ∨ p = 1 ∨ p = 2 := by omega
    rcases this with rfl | rfl | rfl <;> simp [onesAt, cnt] at h1 h2 ⊢
theorem aw_sel00 : Calls Try.prog 16 #[.pointer (some ⟨b, 0, none⟩), .int .i64 0] w fun e w' => e = .returned (.int .i64 1) ∧ ∃ n, w' = w.drewN n := by
  refine (select0_any w b g h _ hv 0).mono ?_
  rintro e w' ⟨⟨j, rfl, hj⟩, hw⟩
  refine ⟨ret_int ?_, hw⟩
  rcases hj with ⟨h1, rfl⟩ | ⟨_, p, hp, rfl, h1, h2⟩
  · simp [zerosAt, cnt] at h1
  · simp only [List.length_cons, List.length_nil] at hp
    have : p = 0 ∨ p = 1 ∨ p = 2 := by omega
    rcases this with rfl | rfl | rfl <;> simp [zerosAt, cnt] at h1 h2 ⊢
end

/-- true, and nothing that was there has turned -/
def IsTrue (w : World) (e : Ending) (w' : World) : Prop := e = .returned (.bool true) ∧ Below w.heap.size w w'

theorem awake_any (w : World) : Calls Try.prog 17 #[] w (IsTrue w) := by
  have HN := Lib.hid (new_any (w.alloc (.cells #[.bool true, .bool false, .bool true] 4)) (some ⟨w.heap.size, 0, none⟩) 3 [true, false, true] (by simp)
    (.inr ⟨w.heap.size, 0, rfl, by simp, fun i hi => by
      rw [World.cell?_alloc_at _ _ _ _ rfl]
      have : i = 0 ∨ i = 1 ∨ i = 2 := by simp at hi; omega
      rcases this with rfl | rfl | rfl <;> rfl⟩))
  have HB0 := Lib.hid ((Below.refl w.heap.size w).alloc (Nat.le_refl _) (.cells #[.bool true, .bool false, .bool true] 4))
  go_enter Try.func17, Try.ntmps17
  go_wp2_with fail
  refine HN.out.mono ?_
  rintro e w1 ⟨b, g, h, rfl, hv, hB⟩
  have HV := Lib.hid hv
  have HB := Lib.hid (HB0.out.trans (hB.mono (by simp)))
  clear hv hB
  go_wp2_with (first
    | (go_at_call 12; (with_reducible refine (aw_rank2 HV.out).mono ?_); rintro e w' ⟨rfl, n, rfl⟩)
    | (go_at_call 15; (with_reducible refine (aw_sel1 (HV.out.drewN _)).mono ?_); rintro e w' ⟨rfl, n, rfl⟩)
    | (go_at_call 16; (with_reducible refine (aw_sel00 (HV.out.drewN _)).mono ?_); rintro e w' ⟨rfl, n, rfl⟩)
    | (go_at_call 13; (with_reducible refine (aw_zeros3 (HV.out.drewN _)).mono ?_); rintro e w' ⟨rfl, n, rfl⟩)
    | (go_at_call 15; (with_reducible refine (aw_sel2 (HV.out.drewN _)).mono ?_); rintro e w' ⟨rfl, n, rfl⟩))
  go_ret
  exact ⟨rfl, below_drewN HB.out _⟩
end Go.Proofs.Ytekpjfbhhfcjnaa
