/- What wave stands on: its bits, a row of symbols, its refusal. -/
import Derived.Test.YtekpjfbhhfcjnaaWaveMath
import Derived.Test.YtekpjfbhhfcjnaaSel
namespace Go.Proofs.Ytekpjfbhhfcjnaa
open Go.RowKit Go.Proofs

theorem bit_eq (c k : Nat) (hc : c < 65536) : (bits BinOp.and IntKind.i64 ((c : Int) / 2 ^ (8 - k)) 1 == 1) = wbit c k := by
  have h := and_mask ((c : Int) / 2 ^ (8 - k)) 1 (by omega)
  rw [show ((2 ^ 1 - 1 : Nat) : Int) = 1 from rfl] at h
  rw [h]
  have e : ((c : Int) / 2 ^ (8 - k)) = ((c / 2 ^ (8 - k) : Nat) : Int) := by simp
  have hlt : c / 2 ^ (8 - k) < 65536 := Nat.lt_of_le_of_lt (Nat.div_le_self _ _) hc
  rw [e, BitVec.toNat_ofInt]
  unfold wbit
  rw [Bool.eq_iff_iff, beq_iff_eq, beq_iff_eq]
  generalize c / 2 ^ (8 - k) = a at *
  omega
theorem bit_any (c k : Nat) (hc : c < 65536) (hk : k < 9) (w : World) : Calls Try.prog 40 #[.int .i64 c, .int .i64 k] w fun e w' => e = .returned (.bool (wbit c k)) ∧ w = w' := by
  have H := Lib.hid (bit_eq c k hc)
  go_enter Try.func40, Try.ntmps40
  go_wp2
  go_ret
  exact ⟨by rw [← H.out]; rfl, rfl⟩

/-- the elements of a slice of symbols -/
def SymsAt (w : World) (p : Option Addr) (l : List Nat) : Prop :=
  l = [] ∨ ∃ b off, p = some ⟨b, off, none⟩ ∧ b < w.heap.size ∧ ∀ i, i < l.length → w.cell? ⟨b, off + i, none⟩ = some (.int .u16 ((l[i]?).getD 0 : Nat))
theorem SymsAt.below {w w' : World} {p : Option Addr} {l : List Nat} (h : SymsAt w p l) (hB : Below w.heap.size w w') : SymsAt w' p l := by
  rcases h with rfl | ⟨b, off, rfl, hb, hc⟩
  · exact .inl rfl
  · exact .inr ⟨b, off, rfl, Nat.lt_of_lt_of_le hb hB.size, fun i hi => (hB.cell (p := ⟨b, off + i, none⟩) hb).trans (hc i hi)⟩
/-- a row of symbols as values -/
def symV (l : List Nat) : List Value := l.map fun x : Nat => Value.int .u16 (x : Int)
theorem symV_snoc (l : List Nat) (x : Nat) : symV (l ++ [x]) = symV l ++ [.int .u16 (x : Int)] := by simp [symV]
theorem symV_append (l m : List Nat) : symV (l ++ m) = symV l ++ symV m := by simp [symV]
theorem symV_one (l : List Nat) : ∀ u ∈ symV l, u.oneCell' = true := by
  intro u hu
  obtain ⟨x, _, rfl⟩ := List.mem_map.1 hu
  rfl
theorem symsAt_of_owns {w : World} {base : Nat} {v : Value} {l : List Nat} (h : w.ownsRow base 48 1 v l.length (symV l)) : ∃ p cap, v = .slice p l.length cap ∧ (p = none → cap = 0) ∧ SymsAt w p l := by
  rcases h.2 with ⟨rfl, h0⟩ | ⟨g, cap, cur, rfl, hg, hh, hn, hcap, hsz, htake⟩
  · exact ⟨none, 0, by rw [h0], fun _ => rfl, .inl (List.length_eq_zero_iff.1 h0)⟩
  · refine ⟨_, cap, rfl, (fun h => by cases h), .inr ⟨g, 0, rfl, (Array.getElem?_eq_some_iff.1 hh).1, fun i hi => ?_⟩⟩
    have := h.cells (g := g) rfl i (.int .u16 (l[i] : Nat)) (by simp [symV, hi])
    rw [show ((⟨g, 0, none⟩ : Addr).add i) = ⟨g, 0 + i, none⟩ from by cases i <;> simp [Addr.add]] at this
    rw [this]; simp [hi]

theorem new1_any (c : Nat) (hc : c < 65536) (w : World) : Calls Try.prog 38 #[.int .u16 c] w fun e w' => e = .returned (.bool (decide (256 < c))) ∧ w = w' := by
  go_enter Try.func38, Try.ntmps38
  go_wp2
  go_ret
  refine ⟨?_, rfl⟩
  have : decide ((256 : Int) < (c : Int)) = decide (256 < c) := decide_eq_decide.2 (by omega)
  rw [← this]; rfl

theorem index_none (w : World) (p : Option Addr) (cap : Nat) (l : List Nat) (hl : l.length ≤ 100000) (hle : ∀ x ∈ l, x ≤ 256) (h : SymsAt w p l) :
    Calls Try.prog 45 #[.slice p l.length cap, .func (.func 38) #[] #[]] w fun e w' => e = .returned (.int .i64 (-1)) ∧ w = w' := by
  go_enter Try.func45, Try.ntmps45
  go_wp2
  go_loop [8] (fun i => ∃ k : Nat, k ≤ l.length ∧ i = .int .i64 k) (fun i => l.length - (intOf i).toNat)
  case atStart => exact ⟨0, Nat.zero_le _, rfl⟩
  case round =>
    obtain ⟨k, hk, rfl⟩ := hrel
    by_cases hlt : k < l.length
    · rcases h with rfl | ⟨b, off, rfl, _, hc⟩
      · simp at hlt
      have hcell := hc k hlt
      have hx : (l[k]?).getD 0 ≤ 256 := by simp [hlt]; exact hle _ (by simp)
      generalize (l[k]?).getD 0 = x at *
      have HX := Lib.hid (new1_any x (by omega) w)
      clear hc
      have hd : decide (256 < x) = false := by simp; omega
      go_wp2_with (go_at_call 38; (with_reducible refine HX.out.mono ?_); rintro e w' ⟨rfl, rfl⟩; rw [hd])
      go_round
      case rel => exact ⟨k + 1, by omega, by go_num⟩
      case measure => simp [intOf]; omega
    · go_wp2
      go_ret
      exact ⟨rfl, rfl⟩
theorem contains_none (w : World) (p : Option Addr) (cap : Nat) (l : List Nat) (hl : l.length ≤ 100000) (hle : ∀ x ∈ l, x ≤ 256) (h : SymsAt w p l) :
    Calls Try.prog 37 #[.slice p l.length cap, .func (.func 38) #[] #[]] w fun e w' => e = .returned (.bool false) ∧ w = w' := by
  have HI := Lib.hid (index_none w p cap l hl hle h)
  go_enter Try.func37, Try.ntmps37
  go_wp2_with (go_at_call 45; (with_reducible refine HI.out.mono ?_); rintro e w' ⟨rfl, rfl⟩)
  go_ret
  exact ⟨rfl, rfl⟩
theorem index_257 (w : World) (b : Nat) (hb : w.cell? ⟨b, 0, none⟩ = some (.int .u16 257)) :
    Calls Try.prog 45 #[.slice (some ⟨b, 0, none⟩) 1 1, .func (.func 38) #[] #[]] w fun e w' => e = .returned (.int .i64 0) ∧ w = w' := by
  have HX := Lib.hid (new1_any 257 (by omega) w)
  go_enter Try.func45, Try.ntmps45
  go_wp2
  refine wp_loop_rounds 1 ?_
  rw [rounds_succ]
  go_wp2_with (go_at_call 38; (refine HX.out.mono ?_); rintro e w' ⟨rfl, rfl⟩)
  go_ret
  exact ⟨rfl, rfl⟩
theorem contains_257 (w : World) (b : Nat) (hb : w.cell? ⟨b, 0, none⟩ = some (.int .u16 257)) :
    Calls Try.prog 37 #[.slice (some ⟨b, 0, none⟩) 1 1, .func (.func 38) #[] #[]] w fun e w' => e = .returned (.bool true) ∧ w = w' := by
  have HI := Lib.hid (index_257 w b hb)
  go_enter Try.func37, Try.ntmps37
  go_wp2_with (go_at_call 45; (with_reducible refine HI.out.mono ?_); rintro e w' ⟨rfl, rfl⟩)
  go_ret
  exact ⟨rfl, rfl⟩
theorem new_257 (w : World) (b : Nat) (hb : w.cell? ⟨b, 0, none⟩ = some (.int .u16 257)) :
    Calls Try.prog 23 #[.slice (some ⟨b, 0, none⟩) 1 1] w fun e w' => e = .returned (.tuple #[.pointer none, .int .i64 1]) ∧ w = w' := by
  have HI := Lib.hid (contains_257 w b hb)
  go_enter Try.func23, Try.ntmps23
  go_wp2_with (go_at_call 37; (with_reducible refine HI.out.mono ?_); rintro e w' ⟨rfl, rfl⟩)
  go_ret2
  exact ⟨rfl, rfl⟩
end Go.Proofs.Ytekpjfbhhfcjnaa
