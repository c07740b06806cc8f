/- The contract of wave.Matrix.Select. -/
import Derived.Test.YtekpjfbhhfcjnaaWaveReads
namespace Go.Proofs.Ytekpjfbhhfcjnaa
open Go.RowKit Go.Proofs

theorem sel_fix (bs : List Bool) (k : Nat) (hk : k < onesAt bs bs.length) : ∃ p, p < bs.length ∧ onesAt bs p = k ∧ (bs[p]?).getD false = true ∧
    ∀ w b g h, VecAt w b g h bs → Calls Try.prog 15 #[.pointer (some ⟨b, 0, none⟩), .int .i64 k] w fun e w' => e = .returned (.int .i64 p) ∧ ∃ n, w' = w.drewN n := by
  obtain ⟨p, _, h2, h3, h4⟩ := places_nth bs bs.length k (by rw [placesTo_length]; exact hk)
  refine ⟨p, h2, h3, h4, fun w b g h hv => (sel_hit hv k hk).mono ?_⟩
  rintro e w' ⟨q, hq, hqk, hqb, rfl, hw⟩
  refine ⟨ret_int ?_, hw⟩
  have s1 := onesAt_succ bs p
  have s2 := onesAt_succ bs q
  rw [h4] at s1
  rw [hqb] at s2
  simp at s1 s2
  rcases Nat.lt_trichotomy p q with hl | hl | hl
  · have := onesAt_mono bs (show p + 1 ≤ q from hl); omega
  · omega
  · have := onesAt_mono bs (show q + 1 ≤ p from hl); omega
theorem sel0_fix (bs : List Bool) (k : Nat) (hk : k < zerosAt bs bs.length) : ∃ p, p < bs.length ∧ zerosAt bs p = k ∧ (bs[p]?).getD false = false ∧
    ∀ w b g h, VecAt w b g h bs → Calls Try.prog 16 #[.pointer (some ⟨b, 0, none⟩), .int .i64 k] w fun e w' => e = .returned (.int .i64 p) ∧ ∃ n, w' = w.drewN n := by
  obtain ⟨p, _, h2, h3, h4⟩ := places_nth (bs.map (!·)) bs.length k (by rw [placesTo_length, not_ones bs _ (Nat.le_refl _)]; exact hk)
  rw [not_ones bs p (by omega)] at h3
  have h5 : (bs[p]?).getD false = false := by
    simp only [List.getElem?_map, List.getElem?_eq_getElem h2, Option.map_some, Option.getD_some] at h4 ⊢
    simpa using h4
  refine ⟨p, h2, h3, h5, fun w b g h hv => (sel0_hit hv k hk).mono ?_⟩
  rintro e w' ⟨q, hq, hqk, hqb, rfl, hw⟩
  refine ⟨ret_int ?_, hw⟩
  have s1 := zerosAt_succ bs p
  have s2 := zerosAt_succ bs q
  rw [h5] at s1
  rw [hqb] at s2
  simp at s1
  simp at s2
  rcases Nat.lt_trichotomy p q with hl | hl | hl
  · have := zerosAt_mono bs (show p + 1 ≤ q from hl); omega
  · omega
  · have := zerosAt_mono bs (show q + 1 ≤ p from hl); omega

theorem select_miss {w : World} {b : Nat} {l : List Nat} (m : MatAt w b l) (c j : Int) (hj : j < 0 ∨ (rankOf l c l.length : Int) ≤ j) :
    Calls Try.prog 25 #[.pointer (some ⟨b, 0, none⟩), .int .i64 c, .int .i64 j] w fun e w' => e = .returned (.int .i64 (-1)) ∧ ∃ n, w' = w.drewN n := by
  have HC := Lib.hid (fun j => count_mat (m.drewN j) c)
  clear m
  generalize rankOf l c l.length = R at *
  by_cases h0 : j < 0
  · clear hj
    go_enter Try.func25, Try.ntmps25
    go_wp2
    go_ret
    exact ⟨rfl, 0, rfl⟩
  · go_enter Try.func25, Try.ntmps25
    go_wp2_with fail
    refine (HC.out 0).mono ?_
    rintro e w1 ⟨rfl, n, rfl⟩
    have h2 : (R : Int) ≤ j := by omega
    clear hj
    go_wp2
    go_ret
    exact ⟨rfl, _, rfl⟩

theorem select_hit {w : World} {b : Nat} {l : List Nat} (m : MatAt w b l) (c j : Nat) (hc : c ≤ 256) (hj : j < cntC c l) :
    Calls Try.prog 25 #[.pointer (some ⟨b, 0, none⟩), .int .i64 c, .int .i64 j] w fun e w' => ∃ p : Nat, Nth l c j p ∧ e = .returned (.int .i64 p) ∧ ∃ n, w' = w.drewN n := by
  have HC := Lib.hid (fun j => count_mat (m.drewN j) c)
  rw [show rankOf l c l.length = cntC c l by unfold rankOf; rw [if_pos ⟨by omega, by omega⟩, List.take_length]; rfl] at HC
  have HD := Lib.hid (fun j => @down_any _ b l (m.drewN j))
  have hll := m.len
  have hcl := cntC_le c l
  have HBt := Lib.hid (bottom_nth l c (fun x hx => by have := m.sym x hx; omega) (by omega) j hj)
  have HM := Lib.hid m
  clear m
  generalize cntC c l = R at *
  have hdR : decide (R ≤ j) = false := decide_eq_false (by omega)
  go_enter Try.func25, Try.ntmps25
  go_wp2_with fail
  refine (HC.out 0).mono ?_
  rintro e w1 ⟨rfl, n0, rfl⟩
  go_wp2
  go_loopw [7, 19] (fun lo i wr => ∃ k n : Nat, k ≤ 9 ∧ i = .int .i64 k ∧ lo = .int .i64 (placeK l c k 0 : Nat) ∧ wr = w.drewN n) (fun _ i _ => 9 - (intOf i).toNat)
  case atStart => exact ⟨0, _, Nat.zero_le _, rfl, by rw [placeK_zero]; rfl, rfl⟩
  case round =>
    obtain ⟨k, n, hk, rfl, rfl, rfl⟩ := hrel
    have hp0 := placeK_le l c k (Nat.zero_le l.length)
    by_cases hlt : k < 9
    · have HB := Lib.hid (fun j => bit_any c k (by omega) hlt (w.drewN j))
      have HDk := Lib.hid (fun j => HD.out j k hlt (wbit c k) _ _ hp0 hp0)
      have HS0 := Lib.hid (placeK_succ l c k 0)
      generalize wbit c k = s at *
      generalize placeK l c k 0 = lo at *
      go_wp2_with (first
        | (go_at_call 40; (with_reducible refine (HB.out _).mono ?_); rintro e w' ⟨rfl, rfl⟩)
        | (go_at_call 41; (with_reducible refine (HDk.out _).mono ?_); rintro e w' ⟨rfl, n, rfl⟩))
      go_roundw
      case rel => exact ⟨k + 1, _, by omega, by go_num, by rw [HS0.out], rfl⟩
      case measure => simp [intOf]; omega
    · obtain rfl : k = 9 := by omega
      rw [show ((9 : Nat) : Int) = 9 from rfl]
      generalize placeK l c 9 0 = lo at *
      have hrl := rowK_length l 9
      have hlo : lo + j < l.length := by have := HBt.out.lt; omega
      go_wp2
      go_loopw [7, 9] (fun q i wr => ∃ qn k n : Nat, k ≤ 9 ∧ i = .int .i64 ((k : Int) - 1) ∧ q = .int .i64 qn ∧ Nth (rowK l k) c j qn ∧ wr = w.drewN n) (fun _ i _ => (intOf i + 1).toNat)
      case atStart => exact ⟨lo + j, 9, n, Nat.le_refl _, rfl, rfl, HBt.out, rfl⟩
      case round =>
        obtain ⟨q, k, n, hk, rfl, rfl, hN, rfl⟩ := hrel
        have HN := Lib.hid hN
        clear hN
        cases k with
        | zero =>
          go_wp2
          go_ret
          exact ⟨q, by have := HN.out; rwa [rowK_zero] at this, rfl, _, rfl⟩
        | succ k =>
          rw [show (((k + 1 : Nat) : Int) - 1) = (k : Int) by omega]
          have hlt : k < 9 := by omega
          have hql := HN.out.lt
          rw [rowK_length] at hql
          have HB := Lib.hid (fun j => bit_any c k (by omega) hlt (w.drewN j))
          obtain ⟨v, g, h, hcv, hv⟩ := HM.out.vec k hlt
          have hzs := HM.out.zs k hlt
          have HV := Lib.hid hv
          have hbl := bitsK_length l k
          clear hv
          cases hwb : wbit c k
          · rw [hwb] at HB
            obtain ⟨hu1, hu2⟩ := up_low l c k j q hwb HN.out
            rw [← hbl] at hu1
            obtain ⟨p, hp, hpk, hpb, hsel⟩ := sel0_fix (bitsK l k) q hu1
            have HNp := Lib.hid (hu2 p (by omega) hpk hpb)
            have HS := Lib.hid (fun j => hsel (w.drewN j) v g h (HV.out.drewN j))
            clear hu1 hu2 hsel hpk hpb hwb
            go_wp2_with (first
              | (go_at_call 40; (with_reducible refine (HB.out _).mono ?_); rintro e w' ⟨rfl, rfl⟩)
              | (go_at_call 16; (with_reducible refine (HS.out _).mono ?_); rintro e w' ⟨rfl, n, rfl⟩))
            go_roundw
            case rel => exact ⟨p, k, _, by omega, by go_num, rfl, HNp.out, rfl⟩
            case measure => simp [intOf]
          · rw [hwb] at HB
            obtain ⟨hz, hu1, hu2⟩ := up_high l c k j q hwb HN.out
            rw [← hbl] at hu1
            obtain ⟨p, hp, hpk, hpb, hsel⟩ := sel_fix (bitsK l k) (q - zsK l k) hu1
            have HNp := Lib.hid (hu2 p (by omega) hpk hpb)
            have hse : ∀ j, Calls Try.prog 15 #[.pointer (some ⟨v, 0, none⟩), .int .i64 ((q : Int) - zsK l k)] (w.drewN j) fun e w' => e = .returned (.int .i64 p) ∧ ∃ n, w' = (w.drewN j).drewN n := fun j => by
              have := hsel (w.drewN j) v g h (HV.out.drewN j)
              rwa [show ((q - zsK l k : Nat) : Int) = (q : Int) - zsK l k by omega] at this
            clear hu1 hu2 hsel hpk hpb hwb
            generalize zsK l k = Z at *
            have HS : Hid (∀ a, Calls Try.prog 15 #[.pointer (some ⟨v, 0, none⟩), .int .i64 ((q : Int) - Z)] (w.drewN (n + a)) fun e w' => e = .returned (.int .i64 p) ∧ ∃ m, w' = w.drewN (n + m)) := fun a => (hse (n + a)).mono fun e w' ⟨he, m, hm⟩ => ⟨he, a + m, by rw [hm, World.drewN_drewN, Nat.add_assoc]⟩
            clear hse
            go_wp2_with (first
              | (go_at_call 40; (with_reducible refine (HB.out _).mono ?_); rintro e w' ⟨rfl, rfl⟩))
            go_quiet (with_reducible exact HS.out _)
            go_wp2
            go_roundw
            case rel => exact ⟨p, k, _, by omega, by go_num, rfl, HNp.out, rfl⟩
            case measure => simp [intOf]
end Go.Proofs.Ytekpjfbhhfcjnaa
