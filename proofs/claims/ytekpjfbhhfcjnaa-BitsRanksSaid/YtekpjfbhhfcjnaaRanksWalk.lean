/- The walk of concordancelaw7.BitsRanks: it answers true for every input. -/
import Derived.Test.YtekpjfbhhfcjnaaAt
namespace Go.Proofs.Ytekpjfbhhfcjnaa
open Go.RowKit Go.Proofs

/-- how many are set ahead of the place before -/
def prevOnes (bs : List Bool) (k : Nat) : Nat := onesAt bs (k - 1)

set_option maxRecDepth 100000 in
set_option maxHeartbeats 1000000 in
theorem ranks_walk (p : Option Addr) (cap : Nat) (l : List Bool) (n : Int) (w : World) (hlm : l.length ≤ 9223372036854775807) (hc : BoolsAt w p l) (_hn : (Lit.int .i64 n).wf = true) :
    Calls Try.prog 3 #[.slice p l.length cap, .int .i64 n] w (IsTrue w) := by
  obtain ⟨M, hM, hM2⟩ := mask_nat n 12 (by omega)
  rw [show ((2 ^ 12 - 1 : Nat) : Int) = 4095 from rfl] at hM
  have HL := long_any w p cap l (M % 3000) (by omega) hlm hc
  have hlo := longOf_length l (M % 3000)
  rw [show ((M % 3000 : Nat) : Int) = (M : Int) % 3000 from by omega] at HL
  generalize longOf l (M % 3000) = bs at *
  have HL' := Lib.hid HL
  have hbl : bs.length ≤ 3000 := by omega
  clear HL hc hlo
  go_enter Try.func3, Try.ntmps3
  go_wp2_with fail
  refine HL'.out.mono ?_
  rintro e w1 ⟨v, rfl, hown, hB1⟩
  obtain ⟨p1, cap1, rfl, hc1⟩ := bools_of_owns hown
  have HN := Lib.hid (new_any w1 p1 cap1 bs (by omega) hc1)
  have HB1 := Lib.hid hB1
  clear hown hc1 hB1
  go_wp2_with fail
  refine HN.out.mono ?_
  rintro e w2 ⟨b, g, h, rfl, hv, hB2⟩
  have HV := Lib.hid hv
  have HB := Lib.hid (HB1.out.trans (hB2.mono HB1.out.size))
  clear hv hB2
  go_wp2
  go_loopw [8, 9] (fun last i wr => ∃ k m : Nat, k ≤ bs.length + 1 ∧ i = .int .i64 k ∧ last = .int .i64 (prevOnes bs k : Nat) ∧ wr = w2.drewN m) (fun _ i _ => bs.length + 1 - (intOf i).toNat)
  case atStart => exact ⟨0, 0, Nat.zero_le _, rfl, by simp [prevOnes, onesAt, cnt], rfl⟩
  case round =>
    obtain ⟨k, m, hk, rfl, rfl, rfl⟩ := hrel
    have HV1 := Lib.hid (HV.out.drewN m)
    by_cases hlt : k ≤ bs.length
    · have HR := Lib.hid (fun j => rank_at (HV.out.drewN j) k hlt)
      have HZ := Lib.hid (fun j => zeros_at (HV.out.drewN j) k hlt)
      have hsum := ones_zeros bs k
      have HPn := Lib.hid (show prevOnes bs (k + 1) = onesAt bs k from rfl)
      by_cases h0 : 0 < k
      · have hs := onesAt_succ bs (k - 1)
        rw [show k - 1 + 1 = k from by omega] at hs
        have hcp := onesAt_le bs (k - 1)
        have HPk := Lib.hid (show prevOnes bs k = onesAt bs (k - 1) from rfl)
        cases hb : (bs[k - 1]?).getD false
        all_goals
          have HG := fun j => get_at (HV.out.drewN j) (k - 1) _ hb
          rw [show ((k - 1 : Nat) : Int) = (k : Int) - 1 from by omega] at HG
          have HG' := Lib.hid HG
          clear HG
          simp only [hb, Bool.toNat_false, Bool.toNat_true, Nat.add_zero] at hs
          clear hb
        · rw [hs] at HPn HR hsum
          rw [HPk.out]
          generalize onesAt bs (k - 1) = c at *
          generalize zerosAt bs k = z at *
          have hz1 : c + z ≤ k := by omega
          have hz2 : k ≤ c + z := by omega
          have hceq : ((c : Int) == (c : Int) + 1) = false := beq_eq_false_iff_ne.2 (by omega)
          clear hs hsum
          go_wp2_with (first
            | (go_at_call 12; (with_reducible refine (HR.out _).mono ?_); rintro e w' ⟨rfl, j, rfl⟩)
            | (go_at_call 13; (with_reducible refine (HZ.out _).mono ?_); rintro e w' ⟨rfl, j, rfl⟩)
            | (go_at_call 14; (with_reducible refine (HG'.out _).mono ?_); rintro e w' ⟨rfl, rfl⟩))
          go_roundw
          case rel => exact ⟨k + 1, _, by omega, by go_num, by rw [HPn.out], rfl⟩
          case measure => simp [intOf]; omega
        · rw [hs] at HPn HR hsum
          rw [HPk.out]
          generalize onesAt bs (k - 1) = c at *
          generalize zerosAt bs k = z at *
          have hz1 : c + 1 + z ≤ k := by omega
          have hz2 : k ≤ c + 1 + z := by omega
          clear hs hsum
          rw [show ((c + 1 : Nat) : Int) = (c : Int) + 1 from rfl] at HR
          have HR' := Lib.hid HR.out
          clear HR
          have HR := HR'
          clear HR'
          go_wp2_with (first
            | (go_at_call 12; (with_reducible refine (HR.out _).mono ?_); rintro e w' ⟨rfl, j, rfl⟩)
            | (go_at_call 13; (with_reducible refine (HZ.out _).mono ?_); rintro e w' ⟨rfl, j, rfl⟩)
            | (go_at_call 14; (with_reducible refine (HG'.out _).mono ?_); rintro e w' ⟨rfl, rfl⟩))
          go_roundw
          case rel => exact ⟨k + 1, _, by omega, by go_num, by rw [HPn.out]; rfl, rfl⟩
          case measure => simp [intOf]; omega
      · obtain rfl : k = 0 := by omega
        have HR0 : Hid (∀ j, Calls Try.prog 12 #[.pointer (some ⟨b, 0, none⟩), .int .i64 0] (w2.drewN j) fun e w' => e = .returned (.int .i64 0) ∧ ∃ n, w' = (w2.drewN j).drewN n) := fun j => by
          have := rank_at (HV.out.drewN j) 0 (Nat.zero_le _)
          rwa [show onesAt bs 0 = 0 by simp [onesAt, cnt]] at this
        have HZ0 : Hid (∀ j, Calls Try.prog 13 #[.pointer (some ⟨b, 0, none⟩), .int .i64 0] (w2.drewN j) fun e w' => e = .returned (.int .i64 0) ∧ ∃ n, w' = (w2.drewN j).drewN n) := fun j => by
          have := zeros_at (HV.out.drewN j) 0 (Nat.zero_le _)
          rwa [show zerosAt bs 0 = 0 by simp [zerosAt]] at this
        have e3 : onesAt bs 0 = 0 := by simp [onesAt, cnt]
        have e2 : prevOnes bs 0 = 0 := e3
        rw [e3] at HPn
        rw [e2, show ((0 : Nat) : Int) = 0 from rfl]
        clear e2 e3 hsum h0 HR HZ
        go_wp2_with (first
          | (go_at_call 12; (with_reducible refine (HR0.out _).mono ?_); rintro e w' ⟨rfl, j, rfl⟩)
          | (go_at_call 13; (with_reducible refine (HZ0.out _).mono ?_); rintro e w' ⟨rfl, j, rfl⟩))
        go_roundw
        case rel => exact ⟨1, _, by omega, rfl, by rw [HPn.out]; rfl, rfl⟩
        case measure => simp [intOf]
    · have hkk : k - 1 = bs.length := by omega
      have HP := Lib.hid (show prevOnes bs k = onesAt bs bs.length by unfold prevOnes; rw [hkk])
      rw [HP.out]
      have hd : decide (k ≤ bs.length) = false := decide_eq_false (by omega)
      clear hkk
      have hsum := ones_zeros bs bs.length
      have HS := Lib.hid (fun j k hk => sel_hit (HV.out.drewN j) k hk)
      have HS0 := Lib.hid (fun j k hk => sel0_hit (HV.out.drewN j) k hk)
      have HM := Lib.hid (fun j => sel_miss (HV.out.drewN j) (onesAt bs bs.length) (.inr (Int.le_refl _)))
      have HM0 := Lib.hid (fun j => sel0_miss (HV.out.drewN j) (zerosAt bs bs.length) (.inr (Int.le_refl _)))
      have HMn := Lib.hid (fun j => sel_miss (HV.out.drewN j) (-1) (.inl (by omega)))
      generalize onesAt bs bs.length = t at *
      generalize zerosAt bs bs.length = t0 at *
      have ht1 : t + t0 ≤ bs.length := by omega
      have ht2 : bs.length ≤ t + t0 := by omega
      clear hsum HV1 hk hlt
      go_wp2
      go_loopw [11] (fun i wr => ∃ k m : Nat, k ≤ t ∧ i = .int .i64 k ∧ wr = w2.drewN m) (fun i _ => t - (intOf i).toNat)
      case atStart => exact ⟨0, m, Nat.zero_le _, rfl, rfl⟩
      case round =>
        obtain ⟨k, m2, hk, rfl, rfl⟩ := hrel
        by_cases hlt : k < t
        · go_wp2_with fail
          refine (HS.out m2 k hlt).mono ?_
          rintro e w3 ⟨q, hq, hqk, hqb, rfl, j, rfl⟩
          have HRq := fun j => rank_at (HV.out.drewN j) q (Nat.le_of_lt hq)
          rw [hqk] at HRq
          have HRq' := Lib.hid HRq
          have HGq := Lib.hid (fun j => get_at (HV.out.drewN j) q true hqb)
          clear HRq hqk hqb
          go_wp2_with (first
            | (go_at_call 12; (with_reducible refine (HRq'.out _).mono ?_); rintro e w' ⟨rfl, j, rfl⟩)
            | (go_at_call 14; (with_reducible refine (HGq.out _).mono ?_); rintro e w' ⟨rfl, rfl⟩))
          go_roundw
          case rel => exact ⟨k + 1, _, by omega, by go_num, rfl⟩
          case measure => simp [intOf]; omega
        · clear HS
          have hd2 : decide (k < t) = false := decide_eq_false hlt
          go_wp2
          go_loopw [13] (fun i wr => ∃ k m : Nat, k ≤ t0 ∧ i = .int .i64 k ∧ wr = w2.drewN m) (fun i _ => t0 - (intOf i).toNat)
          case atStart => exact ⟨0, m2, Nat.zero_le _, rfl, rfl⟩
          case round =>
            obtain ⟨k0, m3, hk0, rfl, rfl⟩ := hrel
            by_cases hlt0 : k0 < t0
            · go_wp2_with fail
              refine (HS0.out m3 k0 hlt0).mono ?_
              rintro e w3 ⟨q, hq, hqk, hqb, rfl, j, rfl⟩
              have HZq := fun j => zeros_at (HV.out.drewN j) q (Nat.le_of_lt hq)
              rw [hqk] at HZq
              have HZq' := Lib.hid HZq
              have HGq := Lib.hid (fun j => get_at (HV.out.drewN j) q false hqb)
              clear HZq hqk hqb
              go_wp2_with (first
                | (go_at_call 13; (with_reducible refine (HZq'.out _).mono ?_); rintro e w' ⟨rfl, j, rfl⟩)
                | (go_at_call 14; (with_reducible refine (HGq.out _).mono ?_); rintro e w' ⟨rfl, rfl⟩))
              go_roundw
              case rel => exact ⟨k0 + 1, _, by omega, by go_num, rfl⟩
              case measure => simp [intOf]; omega
            · clear HS0
              have HM0' := HM0.out
              rw [show (t0 : Int) = (bs.length : Int) - t from by omega] at HM0'
              have HM02 := Lib.hid HM0'
              clear HM0 HM0'
              go_wp2_with (first
                | (go_at_call 15; (with_reducible refine (HM.out _).mono ?_); rintro e w' ⟨rfl, j, rfl⟩)
                | (go_at_call 16; (with_reducible refine (HM02.out _).mono ?_); rintro e w' ⟨rfl, j, rfl⟩)
                | (go_at_call 15; (with_reducible refine (HMn.out _).mono ?_); rintro e w' ⟨rfl, j, rfl⟩)
                | (go_at_call 17; (with_reducible refine (awake_any _).mono ?_); rintro e w' ⟨rfl, hb⟩))
              go_ret
              exact ⟨rfl, (below_drewN HB.out _).trans (hb.mono (below_drewN HB.out _).size)⟩
end Go.Proofs.Ytekpjfbhhfcjnaa
