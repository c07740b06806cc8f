/- The walk of concordancelaw7.BitsTurned: it answers true for every input. -/
import Derived.Test.YtekpjfbhhfcjnaaMore
namespace Go.Proofs.Ytekpjfbhhfcjnaa
open Go.RowKit Go.Proofs

theorem not_ones (bs : List Bool) : ∀ i, i ≤ bs.length → onesAt (bs.map (!·)) i = zerosAt bs i
  | 0, _ => by simp [onesAt, zerosAt, cnt]
  | i + 1, h => by
    rw [onesAt_succ, zerosAt_succ, not_ones bs i (by omega)]
    simp [show i < bs.length by omega]
theorem not_zeros (bs : List Bool) (i : Nat) (h : i ≤ bs.length) : zerosAt (bs.map (!·)) i = onesAt bs i := by
  have h1 := not_ones bs i h
  have h2 := ones_zeros bs i
  have h3 := ones_zeros (bs.map (!·)) i
  omega

set_option maxRecDepth 100000 in
set_option maxHeartbeats 1000000 in
theorem turned_walk (p : Option Addr) (cap : Nat) (l : List Bool) (n i : Int) (w : World) (hlm : l.length ≤ 9223372036854775807) (hc : BoolsAt w p l) (_hn : (Lit.int .i64 n).wf = true) (_hi : (Lit.int .i64 i).wf = true) :
    Calls Try.prog 4 #[.slice p l.length cap, .int .i64 n, .int .i64 i] w (IsTrue w) := by
  obtain ⟨M, hM, hM2⟩ := mask_nat n 11 (by omega)
  rw [show ((2 ^ 11 - 1 : Nat) : Int) = 2047 from rfl] at hM
  have HL := Lib.hid (long_any w p cap l M (by omega) hlm hc)
  have hlo := longOf_length l M
  have hbl : (longOf l M).length ≤ 2047 := by omega
  generalize longOf l M = bs at *
  obtain ⟨i0, hi, hz0, hz1, hz2⟩ := info_parts info4
  clear hc hlo _hn _hi
  go_enter Try.func4, Try.ntmps4
  go_wp2_with fail
  refine HL.out.mono ?_
  rintro e w1 ⟨v, rfl, hown, hB1⟩
  obtain ⟨p1, cap1, rfl, hc1⟩ := bools_of_owns hown
  have HB1 := Lib.hid hB1
  have HC1 := Lib.hid hc1
  clear hown hc1 hB1
  go_wp2
  go_loopw [8, 9] (fun v i wr => ∃ k : Nat, k ≤ bs.length ∧ i = .int .i64 k ∧ wr.ownsRow w1.heap.size 4 1 v k ((List.range k).map (fun i => Value.bool (!(bs[i]?).getD false))) ∧ Below w1.heap.size w1 wr) (fun _ i _ => bs.length - (intOf i).toNat)
  case atStart => exact ⟨0, Nat.zero_le _, rfl, World.ownsRow_nil _ _ _ _, Below.refl _ _⟩
  case round =>
    obtain ⟨k, hk, rfl, hown, hB⟩ := hrel
    by_cases hlt : k < bs.length
    · rcases HC1.out with hnil | ⟨b, off, rfl, hb, hc⟩
      · rw [hnil] at hlt; simp at hlt
      have hcell := (hB.cell (p := ⟨b, off + k, none⟩) hb).trans (hc k hlt)
      have HX := Lib.hid (show (List.range (k + 1)).map (fun i => Value.bool (!(bs[i]?).getD false)) = (List.range k).map (fun i => Value.bool (!(bs[i]?).getD false)) ++ [Value.bool (!(bs[k]?).getD false)] by rw [List.range_succ, List.map_append]; rfl)
      generalize (bs[k]?).getD false = x at *
      have hsz := hB.size
      have HB := Lib.hid hB
      clear hB hc
      go_wp2_with (first | (at_builtin; refine wpList_append_own _ rfl (.tmp 24) (.tmp 30) 22 rfl w1.heap.size 4 i0 (.bool false) 1 1 Try.underlying22 hi hz0 hz1 hz2 rfl (by decide) _ _ _ rfl (hown.alloc _) ⟨wr.heap.size, 0, none⟩ 1 1 [.bool (!x)] rfl rfl ?c1 ?c2 ?c3 ?c4 ?c5 ?_))
      case c1 => exact cell_one_new _ _ _
      case c2 => intro u hu; simp at hu; subst hu; rfl
      case c3 => unfold maxLen; omega
      case c4 => omega
      case c5 => simp; omega
      · intro v' w2 hown' hgrow _
        have hB2 := ((HB.out.alloc hsz (.cells #[.bool (!x)] 4)).grown hgrow (by simp; omega) (fun k hk => (hown.lt k hk).1))
        rw [← HX.out] at hown'
        have HO := Lib.hid hown'
        clear hown' hgrow hown
        go_wp2
        go_roundw
        case rel => exact ⟨k + 1, by omega, by go_num, HO.out, hB2⟩
        case measure => simp [intOf]; omega
    · obtain rfl : k = bs.length := by omega
      have hd : decide (bs.length < bs.length) = false := by simp
      have hrow : wr.ownsRow w1.heap.size 4 1 u8 (bs.map (!·)).length ((bs.map (!·)).map Value.bool) := by
        have e : (List.range bs.length).map (fun i => Value.bool (!(bs[i]?).getD false)) = (bs.map (!·)).map Value.bool := by
          refine List.ext_getElem (by simp) fun i h1 h2 => ?_
          simp at h1
          simp [h1]
        rw [← e]
        simpa using hown
      obtain ⟨p2, cap2, rfl, hc2⟩ := bools_of_owns hrow
      have HN1 := Lib.hid (new_any wr p1 cap1 bs (by omega) (HC1.out.below hB))
      have HC2 := Lib.hid hc2
      have HB := Lib.hid (below_step HB1.out hB)
      have hln : (bs.map (!·)).length = bs.length := by simp
      have HLN := Lib.hid hln
      have HNO := Lib.hid (not_ones bs)
      have HNZ := Lib.hid (not_zeros bs)
      generalize bs.map (!·) = cs at *
      clear hown hc2 hB hrow hk hlt hln
      go_wp2_with fail
      refine HN1.out.mono ?_
      rintro e w2 ⟨b1, g1, h1, rfl, hv1, hB2⟩
      have HV1 := Lib.hid hv1
      have HBB := Lib.hid (below_step HB.out hB2)
      have HN2 := Lib.hid (new_any w2 p2 cap2 cs (by rw [HLN.out]; omega) (HC2.out.below hB2))
      clear hv1 hB2
      go_wp2_with fail
      refine HN2.out.mono ?_
      rintro e w3 ⟨b2, g2, h2, rfl, hv2, hB3⟩
      have HV2 := Lib.hid hv2
      have HV1' := Lib.hid (HV1.out.keep hB3)
      have HB3 := Lib.hid (below_step HBB.out hB3)
      have hci : clampN i bs.length ≤ bs.length := by unfold clampN; omega
      have HA1 := Lib.hid (fun m => rank_cl (HV1'.out.drewN m) i)
      have HA2 : Hid (∀ m, Calls Try.prog 13 #[.pointer (some ⟨b2, 0, none⟩), .int .i64 i] (w3.drewN m) fun e w' => e = .returned (.int .i64 (onesAt bs (clampN i bs.length) : Nat)) ∧ ∃ n, w' = (w3.drewN m).drewN n) := fun m => by
        have := zeros_cl (HV2.out.drewN m) i
        rwa [HLN.out, HNZ.out _ hci] at this
      have HZ1 := Lib.hid (fun m => zeros_cl (HV1'.out.drewN m) i)
      have HZ2 : Hid (∀ m, Calls Try.prog 12 #[.pointer (some ⟨b2, 0, none⟩), .int .i64 i] (w3.drewN m) fun e w' => e = .returned (.int .i64 (zerosAt bs (clampN i bs.length) : Nat)) ∧ ∃ n, w' = (w3.drewN m).drewN n) := fun m => by
        have := rank_cl (HV2.out.drewN m) i
        rwa [HLN.out, HNO.out _ hci] at this
      have HS1 := Lib.hid (fun m => select_any _ b1 g1 h1 bs (HV1'.out.drewN m) i)
      have HS2 : Hid (∀ m j, Found (onesAt bs) bs.length i j → Calls Try.prog 16 #[.pointer (some ⟨b2, 0, none⟩), .int .i64 i] (w3.drewN m) fun e w' => e = .returned (.int .i64 j) ∧ ∃ n, w' = (w3.drewN m).drewN n) := fun m j hj => by
        refine (select0_any _ b2 g2 h2 cs (HV2.out.drewN m) i).mono ?_
        rintro e w' ⟨⟨j', rfl, hj'⟩, hw⟩
        rw [HLN.out] at hj'
        exact ⟨ret_int (Found.unique (fun a b h _ => onesAt_mono bs h) (fun a ha => (HNZ.out a ha).symm) hj hj').symm, hw⟩
      have HT1 := Lib.hid (fun m => select0_any _ b1 g1 h1 bs (HV1'.out.drewN m) i)
      have HT2 : Hid (∀ m j, Found (zerosAt bs) bs.length i j → Calls Try.prog 15 #[.pointer (some ⟨b2, 0, none⟩), .int .i64 i] (w3.drewN m) fun e w' => e = .returned (.int .i64 j) ∧ ∃ n, w' = (w3.drewN m).drewN n) := fun m j hj => by
        refine (select_any _ b2 g2 h2 cs (HV2.out.drewN m) i).mono ?_
        rintro e w' ⟨⟨j', rfl, hj'⟩, hw⟩
        rw [HLN.out] at hj'
        exact ⟨ret_int (Found.unique (fun a b h _ => zerosAt_mono bs h) (fun a ha => (HNO.out a ha).symm) hj hj').symm, hw⟩
      have HO1 := Lib.hid (fun m => ones_all (HV1'.out.drewN m))
      clear hv2 hB3
      generalize onesAt bs (clampN i bs.length) = A at *
      generalize zerosAt bs (clampN i bs.length) = Z at *
      have HLN' := HLN
      clear HLN hci
      go_wp2_with fail
      refine (HA1.out 0).mono ?_
      rintro e w' ⟨rfl, m, rfl⟩
      go_wp2_with (first
        | (go_at_call 13; (with_reducible refine (HA2.out _).mono ?_); rintro e w' ⟨rfl, m, rfl⟩)
        | (go_at_call 13; (with_reducible refine (HZ1.out _).mono ?_); rintro e w' ⟨rfl, m, rfl⟩)
        | (go_at_call 12; (with_reducible refine (HZ2.out _).mono ?_); rintro e w' ⟨rfl, m, rfl⟩))
      refine (HS1.out _).mono ?_
      rintro e w' ⟨⟨j1, rfl, hj1⟩, m, rfl⟩
      have HJ1 := Lib.hid hj1
      clear hj1
      go_wp2_with (go_at_call 16; (with_reducible refine (HS2.out _ j1 HJ1.out).mono ?_); rintro e w' ⟨rfl, m, rfl⟩)
      refine (HT1.out _).mono ?_
      rintro e w' ⟨⟨j2, rfl, hj2⟩, m, rfl⟩
      have HJ2 := Lib.hid hj2
      clear hj2
      go_wp2_with (go_at_call 15; (with_reducible refine (HT2.out _ j2 HJ2.out).mono ?_); rintro e w' ⟨rfl, m, rfl⟩)
      refine (HO1.out _).mono ?_
      rintro e w4 ⟨v1, rfl, ho1, hB4⟩
      obtain ⟨q1, qc1, rfl, _⟩ := ints_of_owns ho1
      have HV24 := Lib.hid ((HV2.out.drewN _).keep hB4)
      have HB4 := Lib.hid (below_step (below_drewN HB3.out _) hB4)
      clear ho1 hB4
      go_wp2_with fail
      refine (ones_all HV24.out).mono ?_
      rintro e w5 ⟨v2, rfl, ho2, hB5⟩
      obtain ⟨q2, qc2, rfl, _⟩ := ints_of_owns ho2
      have HB5 := Lib.hid (below_step HB4.out hB5)
      have hsum : (placesTo bs bs.length).length + (placesTo cs cs.length).length = bs.length := by
        rw [placesTo_length, placesTo_length, HLN'.out, HNO.out _ (Nat.le_refl _)]; exact ones_zeros bs _
      generalize (placesTo bs bs.length).length = A1 at *
      generalize (placesTo cs cs.length).length = A2 at *
      have hs1 : A1 + A2 ≤ bs.length := by omega
      have hs2 : bs.length ≤ A1 + A2 := by omega
      clear ho2 hB5 hsum
      go_wp2_with (go_at_call 17; (with_reducible refine (awake_any _).mono ?_); rintro e w' ⟨rfl, hb⟩)
      all_goals go_ret
      exact ⟨rfl, below_step HB5.out hb⟩
end Go.Proofs.Ytekpjfbhhfcjnaa
