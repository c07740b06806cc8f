/- The walk of concordancelaw8.WaveRows: it answers true for every input. -/
import Derived.Test.YtekpjfbhhfcjnaaWaveAllOf
import Derived.Test.YtekpjfbhhfcjnaaWSelectsWalk
import Derived.IntWalk
namespace Go.Proofs.Ytekpjfbhhfcjnaa
open Go.RowKit Go.Proofs
attribute [local irreducible] rankOf lessOf symOf rowOf

theorem rankOf_in (l : List Nat) (c i : Nat) (hc : c ≤ 256) : rankOf l c i = cntC c (l.take i) := by
  unfold rankOf; rw [if_pos ⟨by omega, by omega⟩]; rfl
theorem clampN_nat (i n : Nat) (h : i ≤ n) : clampN (i : Int) n = i := by unfold clampN; omega
/-- how often each symbol lies in the first i, in block s -/
structure Cnts (s : Nat) (w4 wr : World) (l : List Nat) (i : Nat) : Prop where
  row : wr.rowIs s 3 257 (fun c => .int .i64 (cntC c (l.take i) : Nat))
  below : Below s w4 wr
theorem Cnts.drewN {s : Nat} {w2 wr : World} {l : List Nat} {i : Nat} (h : Cnts s w2 wr l i) (n : Nat) : Cnts s w2 (wr.drewN n) l i := ⟨h.row.of_block rfl, below_drewN h.below n⟩
theorem Cnts.next {s : Nat} {w2 wr : World} {l : List Nat} {i c : Nat} (h : Cnts s w2 wr l i) (hi : i < l.length) (hc : (l[i]?).getD 0 = c) {z : Int} (hz : z = (cntC c (l.take i) : Nat) + 1) : Cnts s w2 (wr.setCell ⟨s, c, none⟩ (.int .i64 z)) l (i + 1) :=
  ⟨(h.row.set c _).congr fun t _ => by
    rw [take_snoc l i hi, cntC_append, cntC_one, hc]
    by_cases e : t = c
    · subst e; rw [if_pos rfl, if_pos rfl, hz]; rfl
    · rw [if_neg e, if_neg fun h => e h.symm]; rfl, h.below.setCell (Nat.le_refl _) _⟩
theorem ints_at_intV {w : World} {base : Nat} {v : Value} {ls : List Nat} (h : w.ownsRow base 3 1 v ls.length (intV ls)) : ∃ p cap, v = .slice p ls.length cap ∧ IntsAt w p ls := intsAt_of_owns h

set_option maxRecDepth 100000 in
set_option maxHeartbeats 2000000 in
theorem wrows_walk (p : Option Addr) (cap : Nat) (l : List Nat) (n : Int) (w : World) (hlm : l.length ≤ 9223372036854775807) (hc : BytesAt w p l) (_hn : (Lit.int .i64 n).wf = true) :
    Calls Try.prog 9 #[.slice p l.length cap, .int .i64 n] w (IsTrue w) := by
  obtain ⟨M, hM, hM2⟩ := mask_nat n 10 (by omega)
  rw [show ((2 ^ 10 - 1 : Nat) : Int) = 1023 from rfl] at hM
  have HL := row_any w p cap l M (by omega) hlm hc
  have hlo := rowOf_length l M
  have hsy := rowOf_sym l M hc.small
  generalize rowOf l M = ls at *
  have HL' := Lib.hid HL
  have hbl : ls.length ≤ 1023 := by omega
  have HSy := Lib.hid hsy
  clear HL hc hlo _hn hsy
  go_enter Try.func9, Try.ntmps9
  go_wp2_with fail
  refine HL'.out.mono ?_
  rintro e w1 ⟨v, rfl, hown, hB1⟩
  have HN := Lib.hid (mat_any w1 _ v ls (by omega) HSy.out hown)
  obtain ⟨p1, cap1, rfl, _, hs1⟩ := symsAt_of_owns hown
  have HB1 := Lib.hid hB1
  have HS1 := Lib.hid hs1
  clear hown hs1 hB1
  go_wp2_with fail
  refine HN.out.mono ?_
  rintro e w2 ⟨b, rfl, hm, hB2⟩
  have HM2 := Lib.hid hm
  have HB2 := Lib.hid (below_step HB1.out hB2)
  have HS2 := Lib.hid (HS1.out.below hB2)
  have HA := Lib.hid (all_any b ls 1048576 (by omega) w2 hm)
  rw [List.take_of_length_le (show ls.length ≤ 1048576 by omega)] at HA
  clear hm hB2
  go_wp2_with fail
  refine HA.out.mono ?_
  rintro e w3 ⟨v8, rfl, hown8, hB3⟩
  obtain ⟨p8, cap8, rfl, hi8⟩ := ints_at_intV hown8
  have HM3 := Lib.hid (HM2.out.keep hB3)
  have HB3 := Lib.hid (below_step HB2.out hB3)
  have HS3 := Lib.hid (HS2.out.below hB3)
  have HI3 := Lib.hid hi8
  have HA4 := Lib.hid (all_any b ls 4 (by omega) w3 HM3.out)
  clear hown8 hB3 hi8
  go_wp2_with fail
  refine HA4.out.mono ?_
  rintro e w4 ⟨v9, rfl, hown9, hB4⟩
  obtain ⟨p9, cap9, rfl, _⟩ := ints_at_intV hown9
  have HM := Lib.hid (HM3.out.keep hB4)
  have HB := Lib.hid (below_step HB3.out hB4)
  have HS := Lib.hid (HS3.out.below hB4)
  have HI := Lib.hid (HI3.out.below hB4)
  clear hown9 hB4 HM3 HB3 HS3 HI3 HM2 HB2 HS2 HB1 HS1 HA HA4 HN HL'
  have hm1 := fun W => run_make_row' (P := Try.prog) 32 3 (.int .i64 0) 8 Try.underlying32 info3 rfl .i64 .i64 257 (by omega) (by omega) W
  rw [show ((257 : Nat) : Int) = 257 from rfl] at hm1
  have HC0 : Hid (Cnts w4.heap.size w4 (w4.alloc (.cells (madeCells #[.int .i64 0] 257) 3)) ls 0) := ⟨(World.rowIs_made w4 (.int .i64 0) 257 3).congr fun t _ => by simp [cntC], (Below.refl _ _).alloc (Nat.le_refl _) _⟩
  rw [List.length_take]
  have h40 : ls.length < 4 ∨ 4 ≤ ls.length := by omega
  rcases h40 with h40 | h40
  case' inl =>
    rw [show min 4 ls.length = ls.length by omega]
    go_wp2
  case' inr =>
    rw [show min 4 ls.length = 4 by omega]
    go_wp2
  all_goals
    clear hm1
    go_loopw [13] (fun ii wr => ∃ i n : Nat, i ≤ ls.length ∧ ii = .int .i64 i ∧ Cnts w4.heap.size w4 wr ls i) (fun ii _ => ls.length - (intOf ii).toNat)
    case atStart => exact ⟨0, 0, Nat.zero_le _, rfl, HC0.out⟩
    case round =>
      obtain ⟨i, n0, hi, rfl, hC⟩ := hrel
      by_cases hlt : i < ls.length
      · have HMr := Lib.hid (HM.out.keep hC.below)
        have HSr := Lib.hid (HS.out.below hC.below)
        have HIr := Lib.hid (HI.out.below hC.below)
        rcases HSr.out with hnil | ⟨bb, off, rfl, hbb, hcs⟩
        · rw [hnil] at hlt; simp at hlt
        rcases HIr.out with hnil | ⟨b8, off8, rfl, hb8, hc8⟩
        · rw [hnil] at hlt; simp at hlt
        have hcell := hcs i hlt
        have hcell8 := hc8 i hlt
        have hc := HSy.out _ (List.getElem_mem hlt)
        have hcv : (ls[i]?).getD 0 = ls[i] := by rw [List.getElem?_eq_getElem hlt]; rfl
        have hcv2 : ls[i]? = some ls[i] := List.getElem?_eq_getElem hlt
        rw [hcv] at hcell hcell8
        generalize ls[i] = c at *
        have hcl := cntC_le c (ls.take i)
        rw [List.length_take] at hcl
        have hcn := hC.row.cell (show c < 257 by omega)
        have hfn := hC.row.frozen c
        have HC := Lib.hid hC
        have hN : Nth ls c (cntC c (ls.take i)) i := ⟨hcv2, rfl⟩
        have HS4 := Lib.hid (quietly fun j => select_fix (HMr.out.drewN j) c (cntC c (ls.take i)) i hc hN fun q hq => Nth.unique hN hq)
        have HR1 : Hid (∀ j, Calls Try.prog 26 #[.pointer (some ⟨b, 0, none⟩), .int .i64 c, .int .i64 i] (wr.drewN j) fun e w' => e = .returned (.int .i64 (cntC c (ls.take i) : Nat)) ∧ ∃ n, w' = wr.drewN n) := quietly fun j => by
          have := rank_mat (HMr.out.drewN j) c i
          rwa [clampN_nat i _ hi, rankOf_in ls c i hc] at this
        have HR2 : Hid (∀ j, Calls Try.prog 26 #[.pointer (some ⟨b, 0, none⟩), .int .i64 c, .int .i64 ((i : Int) + 1)] (wr.drewN j) fun e w' => e = .returned (.int .i64 ((cntC c (ls.take i) : Nat) + 1)) ∧ ∃ n, w' = wr.drewN n) := quietly fun j => by
          have := rank_mat (HMr.out.drewN j) c ((i + 1 : Nat) : Int)
          rwa [clampN_nat (i + 1) _ hlt, rankOf_in ls c (i + 1) hc, take_snoc ls i hlt, cntC_append, cntC_one, hcv, if_pos rfl] at this
        have HNx := Lib.hid fun j z hz => (HC.out.drewN j).next (z := z) hlt hcv hz
        generalize cntC c (ls.take i) = C at *
        have hC1 : C ≤ 1023 := by omega
        clear hcs hc8 hcv hcv2 hC hN hcl
        go_wp2
        have hw1 : IntKind.i64.wrap ((i : Int) + 1) = (i : Int) + 1 := IntWalk.i64_in _ (by omega)
        have hw2 : IntKind.i64.wrap ((C : Int) + 1) = (C : Int) + 1 := IntWalk.i64_in _ (by omega)
        go_quiet (first | with_reducible exact HR1.out _ | with_reducible exact HR2.out _ | with_reducible exact HS4.out _)
        clear hw1 hw2
        go_wp2
        go_roundw
        case rel => exact ⟨i + 1, 0, by omega, by go_num, HNx.out _ _ rfl⟩
        case measure => simp [intOf]; omega
      · obtain rfl : i = ls.length := by omega
        have HC := Lib.hid hC
        have HMr := Lib.hid (HM.out.keep hC.below)
        have hdn : decide (ls.length < ls.length) = false := by simp
        clear hC
        generalize wr = W at *
        go_wp2
        go_loopw [15, 16] (fun le ci wr => ∃ c n : Nat, c ≤ 257 ∧ ci = .int .i64 c ∧ le = .int .i64 (lessOf ls c ls.length : Nat) ∧ wr = W.drewN n) (fun _ ci _ => 257 - (intOf ci).toNat)
        case atStart => exact ⟨0, 0, Nat.zero_le _, rfl, by rw [less_zero_c]; rfl, rfl⟩
        case round =>
          obtain ⟨c, n1, hc, rfl, rfl, rfl⟩ := hrel
          have hle := lessOf_le ls c ls.length
          by_cases hcl : c < 257
          · have hcc := cntC_le c ls
            have hcn := HC.out.row.cell hcl
            rw [List.take_length] at hcn
            have HT := Lib.hid (less_turn ls c)
            have hle2 := lessOf_le ls ((c : Int) + 1) ls.length
            rw [HT.out] at hle2
            have HCt : Hid (∀ a, Calls Try.prog 24 #[.pointer (some ⟨b, 0, none⟩), .int .i64 c] (W.drewN (n1 + a)) fun e w' => e = .returned (.int .i64 (cntC c ls : Nat)) ∧ ∃ m, w' = W.drewN (n1 + m)) := fun a => by
              have := count_mat (HMr.out.drewN (n1 + a)) c
              rw [rankOf_in ls c _ (by omega), List.take_length] at this
              exact this.mono fun e w' ⟨he, m, hm⟩ => ⟨he, a + m, by rw [hm, World.drewN_drewN, Nat.add_assoc]⟩
            have HLe : Hid (∀ a, Calls Try.prog 30 #[.pointer (some ⟨b, 0, none⟩), .int .i64 c, .int .i64 ls.length] (W.drewN (n1 + a)) fun e w' => e = .returned (.int .i64 (lessOf ls c ls.length : Nat)) ∧ ∃ m, w' = W.drewN (n1 + m)) := fun a => by
              have := less_mat (HMr.out.drewN (n1 + a)) c ls.length
              rw [clampN_nat _ _ (Nat.le_refl _)] at this
              exact this.mono fun e w' ⟨he, m, hm⟩ => ⟨he, a + m, by rw [hm, World.drewN_drewN, Nat.add_assoc]⟩
            generalize cntC c ls = C at *
            generalize lessOf ls c ls.length = L at *
            go_wp2
            go_quiet (first | with_reducible exact HCt.out _ | with_reducible exact HLe.out _)
            go_wp2
            go_roundw
            case rel => exact ⟨c + 1, _, by omega, by go_num, by rw [show (((c + 1 : Nat)) : Int) = (c : Int) + 1 from rfl, HT.out]; rfl, rfl⟩
            case measure => simp [intOf]; omega
          · obtain rfl : c = 257 := by omega
            have HLe : Hid (∀ j, Calls Try.prog 30 #[.pointer (some ⟨b, 0, none⟩), .int .i64 257, .int .i64 ls.length] (W.drewN j) fun e w' => e = .returned (.int .i64 ls.length) ∧ ∃ n, w' = (W.drewN j).drewN n) := fun j => by
              have := less_mat (HMr.out.drewN j) 257 ls.length
              rwa [clampN_nat _ _ (Nat.le_refl _), less_all ls HSy.out] at this
            have HCm : Hid (∀ j, Calls Try.prog 24 #[.pointer (some ⟨b, 0, none⟩), .int .i64 (-1)] (W.drewN j) fun e w' => e = .returned (.int .i64 0) ∧ ∃ n, w' = (W.drewN j).drewN n) := fun j => by
              have := count_mat (HMr.out.drewN j) (-1)
              rwa [show rankOf ls (-1) ls.length = 0 by unfold rankOf; rw [if_neg (by omega)]] at this
            have HCp : Hid (∀ j, Calls Try.prog 24 #[.pointer (some ⟨b, 0, none⟩), .int .i64 257] (W.drewN j) fun e w' => e = .returned (.int .i64 0) ∧ ∃ n, w' = (W.drewN j).drewN n) := fun j => by
              have := count_mat (HMr.out.drewN j) 257
              rwa [show rankOf ls 257 ls.length = 0 by unfold rankOf; rw [if_neg (by omega)]] at this
            have HBW := Lib.hid (below_step HB.out HC.out.below)
            generalize lessOf ls ((257 : Nat) : Int) ls.length = L at *
            go_wp2_with (first
              | (go_at_call 30; (with_reducible refine (HLe.out _).mono ?_); rintro e w' ⟨rfl, n, rfl⟩)
              | (go_at_call 24; (with_reducible refine (HCm.out _).mono ?_); rintro e w' ⟨rfl, n, rfl⟩)
              | (go_at_call 24; (with_reducible refine (HCp.out _).mono ?_); rintro e w' ⟨rfl, n, rfl⟩)
              | (go_at_call 28; (with_reducible refine (waw_any _).mono ?_); rintro e w' ⟨rfl, hb⟩))
            go_ret
            exact ⟨rfl, below_step (below_drewN HBW.out _) hb⟩
end Go.Proofs.Ytekpjfbhhfcjnaa
