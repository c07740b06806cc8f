/- The walk of concordancelaw8.WaveTells: it answers true for every input. -/
import Derived.Test.YtekpjfbhhfcjnaaWavePlain
namespace Go.Proofs.Ytekpjfbhhfcjnaa
open Go.RowKit Go.Proofs
attribute [local irreducible] rankOf lessOf symOf rowOf

set_option maxRecDepth 100000 in
set_option maxHeartbeats 2000000 in
theorem wtells_walk (p : Option Addr) (cap : Nat) (l : List Nat) (n c i : Int) (w : World) (hlm : l.length ≤ 9223372036854775807) (hc : BytesAt w p l) (_hn : (Lit.int .i64 n).wf = true) (_hc : (Lit.int .i64 c).wf = true) (_hi : (Lit.int .i64 i).wf = true) :
    Calls Try.prog 8 #[.slice p l.length cap, .int .i64 n, .int .i64 c, .int .i64 i] w (IsTrue w) := by
  obtain ⟨M, hM, hM2⟩ := mask_nat n 12 (by omega)
  rw [show ((2 ^ 12 - 1 : Nat) : Int) = 4095 from rfl] at hM
  have HL := row_any w p cap l (M % 2500) (by omega) hlm hc
  have hlo := rowOf_length l (M % 2500)
  have hsy := rowOf_sym l (M % 2500) hc.small
  rw [show ((M % 2500 : Nat) : Int) = (M : Int) % 2500 from by omega] at HL
  generalize rowOf l (M % 2500) = ls at *
  have HL' := Lib.hid HL
  have hbl : ls.length ≤ 2500 := by omega
  have HSy := Lib.hid hsy
  clear HL hc hlo _hn _hc _hi hsy
  go_enter Try.func8, Try.ntmps8
  go_wp2_with fail
  refine HL'.out.mono ?_
  rintro e w1 ⟨v, rfl, hown, hB1⟩
  have HN := Lib.hid (mat_any w1 _ v ls (by omega) HSy.out hown)
  obtain ⟨p1, cap1, rfl, _, hs1⟩ := symsAt_of_owns hown
  have HB1 := Lib.hid hB1
  have HS1 := Lib.hid hs1
  clear hown hs1 hB1
  go_wp2_with fail
  refine HN.out.mono ?_
  rintro e w2 ⟨b, rfl, hm, hB2⟩
  have HM := Lib.hid hm
  have HB := Lib.hid (below_step HB1.out hB2)
  have HS2 := Lib.hid (HS1.out.below hB2)
  clear hm hB2
  go_wp2_with (go_at_call 29; (with_reducible refine (len_mat HM.out).mono ?_); rintro e w' ⟨rfl, rfl⟩)
  obtain ⟨q, hq⟩ : ∃ q, q = clampN i ls.length := ⟨_, rfl⟩
  have hql : q ≤ ls.length := by rw [hq]; unfold clampN; omega
  have hqc := clamp_cases i ls.length
  rw [← hq] at hqc
  have HQ := Lib.hid hq
  have HQC := Lib.hid hqc
  clear hq hqc
  go_loopw [12, 13, 14, 15, 16] (fun r le t s j wr => ∃ (k : Nat) (sn : Int), k ≤ ls.length ∧ j = .int .i64 k ∧ r = .int .i64 (rankOf ls c (min k q) : Nat) ∧ le = .int .i64 (lessOf ls c (min k q) : Nat) ∧ t = .int .i64 (rankOf ls c k : Nat) ∧ s = .int .i64 sn ∧ SelTo ls c i k sn ∧ wr = w2) (fun _ _ _ _ j _ => ls.length - (intOf j).toNat)
  case atStart => exact ⟨0, -1, Nat.zero_le _, rfl, by rw [Nat.zero_min, rankOf_zero]; rfl, by rw [Nat.zero_min, lessOf_zero]; rfl, by rw [rankOf_zero]; rfl, rfl, by unfold SelTo; exact .inr ⟨rfl, fun _ h => by omega⟩, rfl⟩
  case round =>
    obtain ⟨k, sn, hk, rfl, rfl, rfl, rfl, rfl, hSel, rfl⟩ := hrel
    have hr1 := rankOf_le ls c (min k q)
    have hr2 := rankOf_le ls c k
    have hr3 := lessOf_le ls c (min k q)
    have HSel := Lib.hid hSel
    clear hSel
    by_cases hlt : k < ls.length
    · rcases HS2.out with hnil | ⟨bb, off, rfl, hbb, hcs⟩
      · rw [hnil] at hlt; simp at hlt
      have hcell := hcs k hlt
      have hx : (ls[k]?).getD 0 ≤ 256 := by rw [List.getElem?_eq_getElem hlt]; exact HSy.out _ (by simp)
      have HR := Lib.hid (rankOf_succ ls c k hlt hx)
      have HLs := Lib.hid (lessOf_succ ls c k hlt)
      have HHit : Hid (Hit ls c i k ↔ (((ls[k]?).getD 0 : Nat) : Int) = c ∧ (rankOf ls c k : Int) = i) := by unfold Hit; exact Iff.rfl
      generalize (ls[k]?).getD 0 = x at *
      clear hcs
      have HRi : Hid (((k : Int) < i → rankOf ls c (min (k + 1) q) = rankOf ls c (min k q) + if (x : Int) = c then 1 else 0) ∧ (¬ (k : Int) < i → rankOf ls c (min (k + 1) q) = rankOf ls c (min k q))) := by
        rcases HQC.out with h | h | h
        · exact ⟨fun h' => by omega, fun h' => by rw [show min (k + 1) q = min k q by omega]⟩
        · refine ⟨fun h' => ?_, fun h' => by rw [show min (k + 1) q = min k q by omega]⟩
          rw [show min (k + 1) q = k + 1 by omega, show min k q = k by omega]; exact HR.out
        · refine ⟨fun h' => ?_, fun h' => by omega⟩
          rw [show min (k + 1) q = k + 1 by omega, show min k q = k by omega]; exact HR.out
      have HLi : Hid (((k : Int) < i → lessOf ls c (min (k + 1) q) = lessOf ls c (min k q) + if (x : Int) < c then 1 else 0) ∧ (¬ (k : Int) < i → lessOf ls c (min (k + 1) q) = lessOf ls c (min k q))) := by
        rcases HQC.out with h | h | h
        · exact ⟨fun h' => by omega, fun h' => by rw [show min (k + 1) q = min k q by omega]⟩
        · refine ⟨fun h' => ?_, fun h' => by rw [show min (k + 1) q = min k q by omega]⟩
          rw [show min (k + 1) q = k + 1 by omega, show min k q = k by omega]; exact HLs.out
        · refine ⟨fun h' => ?_, fun h' => by omega⟩
          rw [show min (k + 1) q = k + 1 by omega, show min k q = k by omega]; exact HLs.out
      clear HLs
      generalize hR' : rankOf ls c (min (k + 1) q) = R' at *
      generalize hL' : lessOf ls c (min (k + 1) q) = L' at *
      generalize hT' : rankOf ls c (k + 1) = T' at *
      have HR' := Lib.hid hR'
      have HL2 := Lib.hid hL'
      have HT' := Lib.hid hT'
      clear hR' hL' hT'
      generalize rankOf ls c (min k q) = R at *
      generalize lessOf ls c (min k q) = L at *
      generalize rankOf ls c k = T at *
      have hgt : (x : Int) < c ∨ (x : Int) = c ∨ c < (x : Int) := by omega
      by_cases hki : (k : Int) < i
      all_goals
        first
          | (have H1 := HRi.out.1 hki; have H2 := HLi.out.1 hki)
          | (have H1 := HRi.out.2 hki; have H2 := HLi.out.2 hki)
        rcases hgt with hg | hg | hg
        case' inl =>
          have hne : ((x : Int) == c) = false := beq_eq_false_iff_ne.2 (by omega)
          have hmiss : ¬ Hit ls c i k := fun h => by have := HHit.out.1 h; omega
          have HSn := Lib.hid (HSel.out.miss hmiss)
        case' inr.inr =>
          have hne : ((x : Int) == c) = false := beq_eq_false_iff_ne.2 (by omega)
          have hmiss : ¬ Hit ls c i k := fun h => by have := HHit.out.1 h; omega
          have HSn := Lib.hid (HSel.out.miss hmiss)
        case' inr.inl =>
          have H3 := HR.out
          subst hg
          by_cases hti : (T : Int) = i
          case' pos => have HSn := Lib.hid (HSel.out.hit (HHit.out.2 ⟨rfl, hti⟩))
          case' neg =>
            have hne : ((T : Int) == i) = false := beq_eq_false_iff_ne.2 hti
            have HSn := Lib.hid (HSel.out.miss fun h => hti (HHit.out.1 h).2)
        all_goals
          have H1 := Lib.hid H1
          have H2 := Lib.hid H2
          have H3 := HR.out
          have H3 := Lib.hid H3
          clear HRi HLi HHit HSel HR
          go_wp2
          go_roundw
          case rel =>
            refine ⟨k + 1, _, by omega, by go_num, ?_, ?_, ?_, rfl, HSn.out, by first | rfl | trivial⟩
            · try rw [← hti]
              first
                | (rw [HR'.out, H1.out]; done)
                | (rw [HR'.out, H1.out, if_pos (by omega)]; done)
                | (rw [HR'.out, H1.out, if_pos (by omega)]; rfl)
                | (rw [HR'.out, H1.out, if_neg (by omega)]; done)
                | (rw [HR'.out, H1.out, if_neg (by omega)]; rfl)
            · try rw [← hti]
              first
                | (rw [HL2.out, H2.out]; done)
                | (rw [HL2.out, H2.out, if_pos (by omega)]; done)
                | (rw [HL2.out, H2.out, if_pos (by omega)]; rfl)
                | (rw [HL2.out, H2.out, if_neg (by omega)]; done)
                | (rw [HL2.out, H2.out, if_neg (by omega)]; rfl)
            · try rw [← hti]
              first
                | (rw [HT'.out, H3.out]; done)
                | (rw [HT'.out, H3.out, if_pos (by omega)]; done)
                | (rw [HT'.out, H3.out, if_pos (by omega)]; rfl)
                | (rw [HT'.out, H3.out, if_neg (by omega)]; done)
                | (rw [HT'.out, H3.out, if_neg (by omega)]; rfl)
          case measure => simp [intOf]; omega
    · obtain rfl : k = ls.length := by omega
      rw [show min ls.length q = q by omega] at *
      have HRk := Lib.hid (fun j => rank_mat (HM.out.drewN j) c i)
      have HLe := Lib.hid (fun j => less_mat (HM.out.drewN j) c i)
      have HCt := Lib.hid (fun j => count_mat (HM.out.drewN j) c)
      have HSe := Lib.hid (fun j => sel_done (HM.out.drewN j) c i sn HSel.out)
      have HGe := Lib.hid (fun j => get_mat (HM.out.drewN j) i)
      rw [← HQ.out] at HRk HLe
      have hsb := HSel.out.bound
      generalize rankOf ls c q = R at *
      generalize lessOf ls c q = L at *
      generalize rankOf ls c ls.length = T at *
      have HG0 : Hid (symOf ls i = if 0 ≤ i ∧ i < ls.length then (((ls[i.toNat]?).getD 0 : Nat) : Int) else (-1 : Int)) := by unfold symOf; exact rfl
      generalize symOf ls i = G at *
      clear HSel
      by_cases hi : 0 ≤ i ∧ i < ls.length
      case' pos =>
        obtain ⟨hi0, hi1⟩ := hi
        obtain ⟨iN, rfl⟩ := Int.eq_ofNat_of_zero_le hi0
        have hiN : iN < ls.length := by omega
        rcases HS2.out with hnil | ⟨bb, off, rfl, hbb, hcs⟩
        case' inl => rw [hnil] at hiN; simp at hiN
        have hcell := hcs iN hiN
        obtain rfl : G = ((ls[iN]?).getD 0 : Nat) := by rw [HG0.out, if_pos ⟨hi0, hi1⟩]; rfl
        have hx : (ls[iN]?).getD 0 ≤ 256 := by rw [List.getElem?_eq_getElem hiN]; exact HSy.out _ (by simp)
        generalize (ls[iN]?).getD 0 = x at *
        clear hcs hi0 HG0
        go_wp2_with fail
      case' neg =>
        obtain rfl : G = -1 := by rw [HG0.out, if_neg hi]
        clear HG0
        by_cases hi0 : i < 0
        case' pos => go_wp2_with fail
        case' neg =>
          have hi1 : (ls.length : Int) ≤ i := by omega
          clear hi
          go_wp2_with fail
      all_goals
        refine (HRk.out 0).mono ?_
        rintro e w3 ⟨rfl, n0, rfl⟩
        go_wp2_with (first
          | (go_at_call 30; (with_reducible refine (HLe.out _).mono ?_); rintro e w' ⟨rfl, n, rfl⟩)
          | (go_at_call 24; (with_reducible refine (HCt.out _).mono ?_); rintro e w' ⟨rfl, n, rfl⟩)
          | (go_at_call 25; (with_reducible refine (HSe.out _).mono ?_); rintro e w' ⟨rfl, n, rfl⟩)
          | (go_at_call 27; (with_reducible refine (HGe.out _).mono ?_); rintro e w' ⟨rfl, rfl⟩)
          | (go_at_call 28; (with_reducible refine (waw_any _).mono ?_); rintro e w' ⟨rfl, hb⟩))
        go_ret
        exact ⟨rfl, below_step (below_drewN HB.out _) hb⟩
end Go.Proofs.Ytekpjfbhhfcjnaa
