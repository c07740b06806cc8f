/- Contracts of bits.Vec's Zeros, Len, Get, find, Select and Select0: they tell of the bits what the document says, and write nothing. -/
import Derived.Test.YtekpjfbhhfcjnaaVec
import Derived.Deep.LoopGhost
import Derived.Deep.DeepMust
namespace Go.Proofs.Ytekpjfbhhfcjnaa
open Go.RowKit Go.Proofs

theorem VecAt.drewN {w : World} {b g h : Nat} {bs : List Bool} (hv : VecAt w b g h bs) (n : Nat) : VecAt (w.drewN n) b g h bs := by
  obtain ⟨h0, h1, h2, h3, h4, h5⟩ := hv
  exact ⟨h0, by simpa using h1, by simpa using h2, by simpa using h3, fun i hi => by simpa using h4 i hi, fun i hi => by simpa using h5 i hi⟩

theorem zeros_any (w : World) (b g h : Nat) (bs : List Bool) (hv : VecAt w b g h bs) (i : Int) :
    Calls Try.prog 13 #[.pointer (some ⟨b, 0, none⟩), .int .i64 i] w fun e w' => e = .returned (.int .i64 ((clampN i bs.length : Nat) - (cnt (bs.take (clampN i bs.length)) : Nat) : Int)) ∧ ∃ n, w' = w.drewN n := by
  have hc := clamp_cases i bs.length
  have hk : clampN i bs.length ≤ bs.length := by unfold clampN; omega
  have hkk : clampN (clampN i bs.length) bs.length = clampN i bs.length := by unfold clampN; omega
  have hR := rank_any w b g h bs hv (clampN i bs.length)
  rw [hkk] at hR
  generalize clampN i bs.length = k at *
  have hp := cnt_take_le bs k
  generalize cnt (bs.take k) = A at *
  have hl := hv.len
  have h0 := hv.hn
  have HR := Lib.hid hR
  clear hR hkk hv
  rcases hc with ⟨hi, rfl⟩ | ⟨hi1, hi2, rfl⟩ | ⟨hi, rfl⟩
  all_goals
    go_enter Try.func13, Try.ntmps13
    go_wp2_with (go_at_call 12; refine HR.out.mono ?_; rintro e w' ⟨rfl, n, rfl⟩)
    go_ret
    exact ⟨by first | rfl | exact ret_int (by simp), _, rfl⟩

theorem len_any (w : World) (b g h : Nat) (bs : List Bool) (hv : VecAt w b g h bs) :
    Calls Try.prog 20 #[.pointer (some ⟨b, 0, none⟩)] w fun e w' => e = .returned (.int .i64 bs.length) ∧ w = w' := by
  have h0 := hv.hn
  go_enter Try.func20, Try.ntmps20
  go_wp2
  go_ret
  exact ⟨rfl, rfl⟩

/-- the bit at place i; false where there is none -/
def bitAt (bs : List Bool) (i : Int) : Bool := decide (0 ≤ i) && (bs[i.toNat]?).getD false

theorem shr_bit (x j : Nat) (hx : x < 18446744073709551616) : bits BinOp.and IntKind.u64 ((x : Int) / 2 ^ j) 1 = ((x / 2 ^ j % 2 : Nat) : Int) := by
  have e : ((x : Int) / 2 ^ j) = ((x / 2 ^ j : Nat) : Int) := by simp
  rw [e, show (1 : Int) = ((1 : Nat) : Int) from rfl, bits_and_u64_nat _ _ (Nat.lt_of_le_of_lt (Nat.div_le_self _ _) hx) (by omega), Nat.and_one_is_mod]
theorem get_bit (bs : List Bool) (k : Nat) : Ending.returned (Value.bool (bits BinOp.and IntKind.u64 ((wordAt bs (k / 64) : Int) / 2 ^ (k % 64)) 1 == 1)) = Ending.returned (Value.bool (bitAt bs k)) := by
  rw [shr_bit _ _ (wordAt_lt _ _), wordAt_bit]
  simp only [bitAt]
  cases hb : (bs[k]?).getD false <;> simp [hb]
theorem get_any (w : World) (b g h : Nat) (bs : List Bool) (hv : VecAt w b g h bs) (i : Int) :
    Calls Try.prog 14 #[.pointer (some ⟨b, 0, none⟩), .int .i64 i] w fun e w' => e = .returned (.bool (bitAt bs i)) ∧ w = w' := by
  have hl := hv.len
  have h0 := hv.hn
  have h1 := hv.hw
  by_cases hi : i < 0
  · have hB : bitAt bs i = false := by simp [bitAt]; omega
    rw [hB]
    go_enter Try.func14, Try.ntmps14
    go_wp2
    go_ret
    exact ⟨rfl, rfl⟩
  · obtain ⟨k, rfl⟩ := Int.eq_ofNat_of_zero_le (show 0 ≤ i by omega)
    by_cases hk : k < bs.length
    · have hw1 : k / 64 < words bs.length := words_lt hk
      have h3 := hv.word (k / 64) hw1
      go_enter Try.func14, Try.ntmps14
      go_wp2
      go_ret
      exact ⟨get_bit bs k, rfl⟩
    · have hB : bitAt bs k = false := by simp [bitAt, List.getElem?_eq_none (show bs.length ≤ k by omega)]
      rw [hB]
      go_enter Try.func14, Try.ntmps14
      go_wp2
      go_ret
      exact ⟨rfl, rfl⟩

/-- what find tells: the place at which what r counts passes k -/
def Found (r : Nat → Nat) (n : Nat) (k : Int) (j : Int) : Prop :=
  ((k < 0 ∨ (r n : Int) ≤ k) ∧ j = -1) ∨ (0 ≤ k ∧ ∃ p, p < n ∧ j = (p : Nat) ∧ (r p : Int) ≤ k ∧ k < r (p + 1))
theorem find_any (F : Nat) (w : World) (b g h : Nat) (bs : List Bool) (hv : VecAt w b g h bs) (r : Nat → Nat) (h0r : r 0 = 0) (hcf : ∀ A W, (callFunc F A).run Try.prog W = .ok (.enter F A) W)
    (hf : ∀ (w1 : World) (i : Nat), (∃ m, w1 = w.drewN m) → i ≤ bs.length → Calls Try.prog F #[.pointer (some ⟨b, 0, none⟩), .int .i64 i] w1 fun e w' => e = .returned (.int .i64 (r i)) ∧ ∃ n, w' = w1.drewN n) (k : Int) :
    Calls Try.prog 35 #[.pointer (some ⟨b, 0, none⟩), .int .i64 k, .func (.func F) #[.pointer (some ⟨b, 0, none⟩)] #[]] w fun e w' => (∃ j, e = .returned (.int .i64 j) ∧ Found r bs.length k j) ∧ ∃ n, w' = w.drewN n := by
  have hl := hv.len
  have h0 := hv.hn
  have HF := Lib.hid hf
  clear hf
  by_cases hk : k < 0
  · go_enter Try.func35, Try.ntmps35
    go_wp2
    go_ret
    exact ⟨⟨_, rfl, .inl ⟨.inl hk, rfl⟩⟩, 0, rfl⟩
  · have HN := Lib.hid (HF.out w bs.length ⟨0, rfl⟩ (Nat.le_refl _))
    have hpos : ¬ (r bs.length : Int) ≤ k → 0 < bs.length := fun h => by
      rcases Nat.eq_zero_or_pos bs.length with e | e
      · rw [e, h0r] at h; omega
      · exact e
    by_cases hn : (r bs.length : Int) ≤ k
    · clear hpos
      go_enter Try.func35, Try.ntmps35
      go_wp2_with fail
      refine HN.out.mono ?_
      rintro e w1 ⟨rfl, m, rfl⟩
      go_wp2
      go_ret
      exact ⟨⟨_, rfl, .inl ⟨.inr hn, rfl⟩⟩, m, rfl⟩
    · replace hpos := hpos hn
      go_enter Try.func35, Try.ntmps35
      go_wp2_with fail
      refine HN.out.mono ?_
      rintro e w1 ⟨rfl, m, rfl⟩
      go_wp2
      go_quiet (fail)
      go_wp2
      go_loopw [7, 8] (fun lo hi wr => ∃ x y : Nat, lo = .int .i64 x ∧ hi = .int .i64 y ∧ y ≤ bs.length ∧ x < y ∧ (r x : Int) ≤ k ∧ k < r y ∧ ∃ m, wr = w.drewN m) (fun lo hi _ => (intOf hi - intOf lo).toNat)
      case atStart => exact ⟨0, bs.length, rfl, rfl, Nat.le_refl _, hpos, by rw [h0r]; omega, by omega, _, World.drewN_drewN _ _ _⟩
      case round =>
        obtain ⟨x, y, rfl, rfl, hy, hxy, hrx, hry, mm, rfl⟩ := hrel
        have HM := HF.out (w.drewN mm) ((x + y) / 2) ⟨mm, rfl⟩ (by omega)
        rw [show (((x + y) / 2 : Nat) : Int) = ((x : Int) + y) / 2 from by omega] at HM
        have HM' := Lib.hid HM
        clear HM
        by_cases hd : 1 < y - x
        · by_cases ht : (r ((x + y) / 2) : Int) ≤ k
          all_goals
            go_wp2_with fail
            refine HM'.out.mono ?_
            rintro e w1 ⟨rfl, m2, rfl⟩
            go_wp2
            go_roundw
          case rel => exact ⟨(x + y) / 2, y, by go_num, rfl, hy, by omega, ht, hry, _, rfl⟩
          case measure => simp [intOf]; omega
          case rel => exact ⟨x, (x + y) / 2, rfl, by go_num, by omega, by omega, hrx, by omega, _, rfl⟩
          case measure => simp [intOf]; omega
        · go_wp2
          go_ret
          obtain rfl : y = x + 1 := by omega
          exact ⟨⟨_, rfl, .inr ⟨by omega, x, by omega, rfl, hrx, hry⟩⟩, _, rfl⟩

theorem callFunc12 (A : Array Value) (W : World) : (callFunc 12 A).run Try.prog W = .ok (.enter 12 A) W := by kernel_rfl
theorem callFunc13 (A : Array Value) (W : World) : (callFunc 13 A).run Try.prog W = .ok (.enter 13 A) W := by kernel_rfl

theorem drewN_again {w w1 : World} (h : ∃ n, w1 = w.drewN n) {w2 : World} (h2 : ∃ n, w2 = w1.drewN n) : ∃ n, w2 = w.drewN n := by
  obtain ⟨a, rfl⟩ := h
  obtain ⟨c, rfl⟩ := h2
  exact ⟨a + c, World.drewN_drewN _ _ _⟩
theorem clampN_in {i n : Nat} (h : i ≤ n) : clampN i n = i := by unfold clampN; omega
/-- how many of the first i are set; how many are not -/
def onesAt (bs : List Bool) (i : Nat) : Nat := cnt (bs.take i)
def zerosAt (bs : List Bool) (i : Nat) : Nat := i - cnt (bs.take i)

theorem select_any (w : World) (b g h : Nat) (bs : List Bool) (hv : VecAt w b g h bs) (k : Int) :
    Calls Try.prog 15 #[.pointer (some ⟨b, 0, none⟩), .int .i64 k] w fun e w' => (∃ j, e = .returned (.int .i64 j) ∧ Found (onesAt bs) bs.length k j) ∧ ∃ n, w' = w.drewN n := by
  have HR := Lib.hid (find_any 12 w b g h bs hv (onesAt bs) (by simp [onesAt, cnt]) callFunc12 (fun w1 i ⟨m, hm⟩ hi => by
    subst hm
    have hr := rank_any (w.drewN m) b g h bs (hv.drewN m) i
    rw [clampN_in hi] at hr
    exact hr) k)
  have hmf : ∀ (fn : Fn) (first cap : Array Value) (w : World), (Instr.makeFunc fn first cap).run Try.prog w = .ok (.func fn first cap) w := fun _ _ _ _ => rfl
  go_enter Try.func15, Try.ntmps15
  go_wp2_with fail
  refine HR.out.mono ?_
  rintro e w1 ⟨⟨j, rfl, hj⟩, m, rfl⟩
  have HJ := Lib.hid hj
  clear hj
  go_wp2
  go_ret
  exact ⟨⟨_, rfl, HJ.out⟩, _, rfl⟩
theorem select0_any (w : World) (b g h : Nat) (bs : List Bool) (hv : VecAt w b g h bs) (k : Int) :
    Calls Try.prog 16 #[.pointer (some ⟨b, 0, none⟩), .int .i64 k] w fun e w' => (∃ j, e = .returned (.int .i64 j) ∧ Found (zerosAt bs) bs.length k j) ∧ ∃ n, w' = w.drewN n := by
  have HR := Lib.hid (find_any 13 w b g h bs hv (zerosAt bs) (by simp [zerosAt]) callFunc13 (fun w1 i ⟨m, hm⟩ hi => by
    subst hm
    have hr := zeros_any (w.drewN m) b g h bs (hv.drewN m) i
    rw [clampN_in hi] at hr
    have := cnt_take_le bs i
    refine hr.mono fun e w' ⟨he, hw⟩ => ⟨he.trans (ret_int ?_), hw⟩
    unfold zerosAt
    omega) k)
  have hmf : ∀ (fn : Fn) (first cap : Array Value) (w : World), (Instr.makeFunc fn first cap).run Try.prog w = .ok (.func fn first cap) w := fun _ _ _ _ => rfl
  go_enter Try.func16, Try.ntmps16
  go_wp2_with fail
  refine HR.out.mono ?_
  rintro e w1 ⟨⟨j, rfl, hj⟩, m, rfl⟩
  have HJ := Lib.hid hj
  clear hj
  go_wp2
  go_ret
  exact ⟨⟨_, rfl, HJ.out⟩, _, rfl⟩
end Go.Proofs.Ytekpjfbhhfcjnaa
