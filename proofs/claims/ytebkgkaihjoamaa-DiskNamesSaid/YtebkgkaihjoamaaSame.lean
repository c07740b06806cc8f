/- Two rows of the same texts are told to be the same. -/
import Derived.Test.YtebkgkaihjoamaaListX
namespace Go.Proofs.Ytebkgkaihjoamaa
open Go.RowKit Go.Proofs

theorem same_self (w : World) (v1 v2 : Value) (ts : List (List UInt8)) (h1 : StrRow w v1 ts) (h2 : StrRow w v2 ts) (hl : ts.length ≤ 1000) :
    Calls Try.prog 17 #[v1, v2] w fun e w' => e = .returned (.bool true) ∧ Keeps [] w w' := by
  obtain ⟨p1, c1, rfl, hp1⟩ := h1.shape
  obtain ⟨p2, c2, rfl, hp2⟩ := h2.shape
  have H1 := Lib.hid h1
  have H2 := Lib.hid h2
  clear h1 h2
  go_enter Try.func17, Try.ntmps17
  go_wp2_with fail
  go_loopw [5] (fun i wr => ∃ k : Nat, i = .int .i64 (k : Int) ∧ k ≤ ts.length ∧ Keeps [] w wr) (fun i _ => ts.length - (intOf i).toNat)
  case atStart => exact ⟨0, rfl, Nat.zero_le _, Keeps.refl _ _⟩
  case round =>
    obtain ⟨k, rfl, hk, hK⟩ := hrel
    have HK := Lib.hid hK
    clear hK
    by_cases hlt : k < ts.length
    · obtain ⟨g1, rfl, d1⟩ := (H1.out.keep HK.out).cell k hlt
      obtain ⟨g2, rfl, d2⟩ := (H2.out.keep HK.out).cell k hlt
      rw [Nat.zero_add] at d1 d2
      have d1d : ∀ n, (wr.drewN n).cell? ⟨g1, k, none⟩ = some (.string ⟨(ts[k]).toArray⟩) := fun _ => d1
      have d2d : ∀ n, (wr.drewN n).cell? ⟨g2, k, none⟩ = some (.string ⟨(ts[k]).toArray⟩) := fun _ => d2
      generalize (⟨(ts[k]).toArray⟩ : ByteArray) = t at *
      have heq : (t.toList == t.toList) = true := by simp
      go_wp2_with (go_quiet (fail))
      go_roundw
      case rel => exact ⟨k + 1, by go_num, by omega, HK.out.drewN _⟩
      case measure => simp [intOf]; omega
    · obtain rfl : k = ts.length := by omega
      go_wp2_with fail
      go_ret
      exact ⟨rfl, HK.out⟩
end Go.Proofs.Ytebkgkaihjoamaa
