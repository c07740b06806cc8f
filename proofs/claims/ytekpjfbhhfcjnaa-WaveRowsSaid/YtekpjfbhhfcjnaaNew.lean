/- The contract of bits.New: of a slice of bools it makes, in new memory, the Vec of these bits. -/
import Derived.Test.YtekpjfbhhfcjnaaRaw
namespace Go.Proofs.Ytekpjfbhhfcjnaa
open Go.RowKit Go.Proofs

theorem RawVec.vecAt {w : World} {b g h : Nat} {bs : List Bool} {f r : Nat → Nat} (v : RawVec w b g h bs.length f r) (hl : bs.length ≤ 100000) (hf : ∀ i, i < words bs.length → f i = wordAt bs i) (hr : ∀ i, i ≤ words bs.length → r i = cnt (bs.take (64 * i))) : VecAt w b g h bs :=
  ⟨hl, v.c0, v.c1, v.c2, fun i hi => by rw [v.hg.cell hi, hf i hi], fun i hi => by rw [v.hh.cell (show i < words bs.length + 1 by omega), hr i hi]⟩

/-- what New leaves: a Vec of the bits, in new memory -/
def MadeVec (bs : List Bool) (w : World) (e : Ending) (w' : World) : Prop :=
  ∃ b g h, e = .returned (.tuple #[.pointer (some ⟨b, 0, none⟩), .int .i64 0]) ∧ VecAt w' b g h bs ∧ Below w.heap.size w w'

/-- the elements of a slice of bools -/
def BoolsAt (w : World) (p : Option Addr) (bs : List Bool) : Prop :=
  bs = [] ∨ ∃ b off, p = some ⟨b, off, none⟩ ∧ b < w.heap.size ∧ ∀ i, i < bs.length → w.cell? ⟨b, off + i, none⟩ = some (.bool ((bs[i]?).getD false))

theorem upTo_cnt (bs : List Bool) : ∀ i, upTo (fun i => popN 64 (wordAt bs i)) i = cnt (bs.take (64 * i))
  | 0 => by simp [upTo, cnt]
  | i + 1 => by rw [cnt_next, ← upTo_cnt bs i]; rfl
theorem wordAt_zero (bs : List Bool) (j : Nat) : wordAt (bs.take 0) j = 0 := by simp [wordAt, wordOf]

theorem or_eq (x j : Nat) (hx : x < 2 ^ j) (hj : j < 64) : bits BinOp.or IntKind.u64 (x : Int) (IntKind.u64.wrap (2 ^ j)) = ((x + 2 ^ j : Nat) : Int) := by
  have h2 := two_pow_lt hj
  have e : ((2 : Int) ^ j) = ((2 ^ j : Nat) : Int) := by simp
  rw [e, wrapU _ h2, bits_or_u64_nat _ _ (by omega) h2, or_bit x j hx]

theorem new_some (w : World) (b off cap : Nat) (bs : List Bool) (hl : bs.length ≤ 100000) (hb : b < w.heap.size) (hc : ∀ i, i < bs.length → w.cell? ⟨b, off + i, none⟩ = some (.bool ((bs[i]?).getD false))) :
    Calls Try.prog 11 #[.slice (some ⟨b, off, none⟩) bs.length cap] w (MadeVec bs w) := by
  have HE := Lib.hid (empty_any bs.length w hl)
  go_enter Try.func11, Try.ntmps11
  go_wp2_with fail
  refine HE.out.mono ?_
  rintro e w1 ⟨v, g, h, rfl, hv, hvb, hgb, hhb, hB⟩
  have HV := Lib.hid hv
  have HB := Lib.hid hB
  clear hv hB
  go_wp2
  go_loopw [15] (fun i wr => ∃ k : Nat, k ≤ bs.length ∧ i = .int .i64 k ∧ RawVec wr v g h bs.length (fun j => wordAt (bs.take k) j) (fun _ => 0) ∧ Below w.heap.size w wr) (fun i _ => bs.length - (intOf i).toNat)
  case atStart => exact ⟨0, Nat.zero_le _, rfl, HV.out.congr (fun _ _ => (wordAt_zero _ _).symm) (fun _ _ => rfl), HB.out⟩
  case round =>
    obtain ⟨k, hk, rfl, hv, hB⟩ := hrel
    have c1 := hv.c1
    by_cases hlt : k < bs.length
    · have hcell := (hB.cell (p := ⟨b, off + k, none⟩) hb).trans (hc k hlt)
      have hk64 : k / 64 < words bs.length := words_lt hlt
      have cg := hv.hg.cell hk64
      have fg := hv.hg.frozen (k / 64)
      have hx := wordAt_part_lt bs k hk
      have HS := Lib.hid (fun j => wordAt_succ bs k j hlt)
      have hx2 := wordAt_lt (bs.take k) (k / 64)
      have hbk : (bs[k]?).getD false = bs[k] := by simp [hlt]
      rw [hbk] at hcell
      clear hbk
      generalize hX : wordAt (bs.take k) (k / 64) = x at *
      have HX := Lib.hid hX
      have HVr := Lib.hid hv
      have HBr := Lib.hid hB
      clear hv hB hX hc
      generalize hbb : bs[k] = is at *
      clear hbb
      cases is
      · go_wp2
        go_roundw
        case rel =>
          refine ⟨k + 1, by omega, by go_num, HVr.out.congr (fun j _ => ?_) (fun _ _ => rfl), HBr.out⟩
          rw [HS.out j]
          simp
        case measure => simp [intOf]; omega
      · go_wp2
        refine wp_region_tail 13 (by kernel_rfl) (by kernel_rfl) ?_
        simp only [List.take_succ_cons, List.take_zero, List.drop_succ_cons, List.drop_zero]
        repeat (go_big_quiet_step (fail))
        refine wpQuiet_nil ?_
        rintro _ ⟨nq, rfl⟩
        go_wp2
        go_roundw
        case rel =>
          refine ⟨k + 1, by omega, by go_num, ?_, (below_drewN HBr.out nq).setCell hgb _⟩
          refine ((HVr.out.drewN nq).setG' (k / 64) (x + 2 ^ (k % 64)) (or_eq x (k % 64) hx (Nat.mod_lt _ (by omega)))).congr (fun j _ => ?_) (fun _ _ => rfl)
          rw [HS.out j]
          by_cases e : j = k / 64
          · rw [if_pos e, if_pos e, e, HX.out]; simp
          · rw [if_neg e, if_neg e]
        case measure => simp [intOf]; omega
    · go_wp2_with fail
      obtain rfl : k = bs.length := by omega
      rw [List.take_length] at hv
      refine (count_any wr v g h bs.length _ hl (fun i => wordAt_lt _ _) hv).mono ?_
      rintro e w2 ⟨rfl, hv2, hB2⟩
      have HF := Lib.hid hv2
      have HF2 := Lib.hid (hB2 w.heap.size hhb)
      clear hv2 hB2
      go_wp2
      go_ret2
      exact ⟨v, g, h, rfl, HF.out.vecAt hl (fun _ _ => rfl) (fun i _ => upTo_cnt bs i), hB.trans HF2.out⟩

theorem new_none (w : World) (p : Option Addr) (cap : Nat) : Calls Try.prog 11 #[.slice p 0 cap] w (MadeVec [] w) := by
  have HE := Lib.hid (empty_any 0 w (by omega))
  go_enter Try.func11, Try.ntmps11
  go_wp2_with fail
  refine HE.out.mono ?_
  rintro e w1 ⟨v, g, h, rfl, hv, hvb, hgb, hhb, hB⟩
  have HV := Lib.hid hv
  have HB := Lib.hid hB
  clear hv hB
  go_wp2
  go_loopw [15] (fun i wr => i = .int .i64 0 ∧ wr = w1) (fun _ _ => 0)
  case atStart => exact ⟨rfl, rfl⟩
  case round =>
    obtain ⟨rfl, rfl⟩ := hrel
    go_wp2_with fail
    refine (count_any wr v g h 0 _ (by omega) (fun i => by omega) HV.out).mono ?_
    rintro e w2 ⟨rfl, hv2, hB2⟩
    have HF := Lib.hid hv2
    have HF2 := Lib.hid (hB2 w.heap.size hhb)
    clear hv2 hB2
    go_wp2
    go_ret2
    refine ⟨v, g, h, rfl, (RawVec.vecAt (bs := []) HF.out (by simp) (fun i hi => ?_) (fun i hi => ?_)), HB.out.trans HF2.out⟩
    · exact absurd hi (by simp [words])
    · have : i = 0 := by simp [words] at hi; exact hi
      subst this
      simp [upTo, cnt]

/-- New, of the bits of a slice -/
theorem new_any (w : World) (p : Option Addr) (cap : Nat) (bs : List Bool) (hl : bs.length ≤ 100000) (hc : BoolsAt w p bs) : Calls Try.prog 11 #[.slice p bs.length cap] w (MadeVec bs w) := by
  rcases hc with rfl | ⟨b, off, rfl, hb, hc⟩
  · exact new_none w p cap
  · exact new_some w b off cap bs hl hb hc
end Go.Proofs.Ytekpjfbhhfcjnaa
