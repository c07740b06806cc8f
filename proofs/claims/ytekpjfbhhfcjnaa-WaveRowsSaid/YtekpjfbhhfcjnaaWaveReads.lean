/- Contracts of wave.Matrix: its readers. -/
import Derived.Test.YtekpjfbhhfcjnaaWaveBase
namespace Go.Proofs.Ytekpjfbhhfcjnaa
open Go.RowKit Go.Proofs

/-- block b holds the matrix of the row l -/
structure MatAt (w : World) (b : Nat) (l : List Nat) : Prop where
  len : l.length ≤ 100000
  sym : ∀ x ∈ l, x ≤ 256
  hb : b < w.heap.size
  row : ∃ p cap, w.cell? ⟨b, 0, none⟩ = some (.slice p l.length cap) ∧ SymsAt w p l
  vec : ∀ k, k < 9 → ∃ v g h, w.cell? ⟨b, 1 + k, none⟩ = some (.pointer (some ⟨v, 0, none⟩)) ∧ VecAt w v g h (bitsK l k)
  zs : ∀ k, k < 9 → w.cell? ⟨b, 10 + k, none⟩ = some (.int .i64 (zsK l k))
theorem MatAt.keep {w w' : World} {b : Nat} {l : List Nat} (m : MatAt w b l) (hB : Below w.heap.size w w') : MatAt w' b l :=
  ⟨m.len, m.sym, Nat.lt_of_lt_of_le m.hb hB.size,
   by obtain ⟨p, cap, h1, h2⟩ := m.row; exact ⟨p, cap, (hB.cell m.hb).trans h1, h2.below hB⟩,
   fun k hk => by obtain ⟨v, g, h, h1, h2⟩ := m.vec k hk; exact ⟨v, g, h, (hB.cell m.hb).trans h1, h2.keep hB⟩,
   fun k hk => (hB.cell m.hb).trans (m.zs k hk)⟩
theorem MatAt.drewN {w : World} {b : Nat} {l : List Nat} (m : MatAt w b l) (n : Nat) : MatAt (w.drewN n) b l := m.keep (below_drewN (Below.refl _ _) n)

theorem quietly {P : Program} {f : FuncId} {args : Array Value} {w : World} {v : Value} (h : ∀ j, Calls P f args (w.drewN j) fun e w' => e = .returned v ∧ ∃ n, w' = (w.drewN j).drewN n) (j : Nat) :
    Calls P f args (w.drewN j) fun e w' => e = .returned v ∧ ∃ n, w' = w.drewN n :=
  (h j).mono fun _ _ ⟨he, n, hn⟩ => ⟨he, j + n, by rw [hn, World.drewN_drewN]⟩
theorem down_any {w : World} {b : Nat} {l : List Nat} (m : MatAt w b l) (k : Nat) (hk : k < 9) (set : Bool) (lo hi : Nat) (hlo : lo ≤ l.length) (hhi : hi ≤ l.length) :
    Calls Try.prog 41 #[.pointer (some ⟨b, 0, none⟩), .int .i64 k, .int .i64 lo, .int .i64 hi, .bool set] w fun e w' => e = .returned (.tuple #[.int .i64 (downK l k set lo : Nat), .int .i64 (downK l k set hi : Nat)]) ∧ ∃ n, w' = w.drewN n := by
  obtain ⟨v, g, h, hc, hv⟩ := m.vec k hk
  have hz := m.zs k hk
  have hll := m.len
  have hL := down_le l k set hlo
  have hH := down_le l k set hhi
  have hbl := bitsK_length l k
  have HRl : Hid (∀ j, Calls Try.prog 12 #[.pointer (some ⟨v, 0, none⟩), .int .i64 lo] (w.drewN j) fun e w' => e = .returned (.int .i64 (onesAt (bitsK l k) lo : Nat)) ∧ ∃ n, w' = (w.drewN j).drewN n) := fun j => rank_at (hv.drewN j) lo (by omega)
  have HRh : Hid (∀ j, Calls Try.prog 12 #[.pointer (some ⟨v, 0, none⟩), .int .i64 hi] (w.drewN j) fun e w' => e = .returned (.int .i64 (onesAt (bitsK l k) hi : Nat)) ∧ ∃ n, w' = (w.drewN j).drewN n) := fun j => rank_at (hv.drewN j) hi (by omega)
  have HZl : Hid (∀ j, Calls Try.prog 13 #[.pointer (some ⟨v, 0, none⟩), .int .i64 lo] (w.drewN j) fun e w' => e = .returned (.int .i64 (zerosAt (bitsK l k) lo : Nat)) ∧ ∃ n, w' = (w.drewN j).drewN n) := fun j => zeros_at (hv.drewN j) lo (by omega)
  have HZh : Hid (∀ j, Calls Try.prog 13 #[.pointer (some ⟨v, 0, none⟩), .int .i64 hi] (w.drewN j) fun e w' => e = .returned (.int .i64 (zerosAt (bitsK l k) hi : Nat)) ∧ ∃ n, w' = (w.drewN j).drewN n) := fun j => zeros_at (hv.drewN j) hi (by omega)
  clear hv m
  cases set
  · rw [downK_false, downK_false] at *
    generalize zerosAt (bitsK l k) lo = A at *
    generalize zerosAt (bitsK l k) hi = B at *
    go_enter Try.func41, Try.ntmps41
    go_wp2_with fail
    refine (HZl.out 0).mono ?_
    rintro e w1 ⟨rfl, m, rfl⟩
    go_wp2_with (go_at_call 13; (with_reducible refine (HZh.out _).mono ?_); rintro e w' ⟨rfl, m, rfl⟩)
    go_ret2
    exact ⟨rfl, _, rfl⟩
  · rw [downK_true, downK_true] at *
    have hz2 : zsK l k ≤ 100000 := by omega
    generalize onesAt (bitsK l k) lo = A at *
    generalize onesAt (bitsK l k) hi = B at *
    generalize zsK l k = Z at *
    have HRl := Lib.hid (quietly HRl.out)
    have HRh := Lib.hid (quietly HRh.out)
    go_enter Try.func41, Try.ntmps41
    go_wp2
    go_quiet (first | with_reducible exact HRl.out _ | with_reducible exact HRh.out _)
    go_wp2
    go_ret2
    exact ⟨rfl, _, rfl⟩
theorem within_any {w : World} {b : Nat} {l : List Nat} (m : MatAt w b l) (i : Int) :
    Calls Try.prog 42 #[.pointer (some ⟨b, 0, none⟩), .int .i64 i] w fun e w' => e = .returned (.int .i64 (clampN i l.length : Nat)) ∧ w = w' := by
  obtain ⟨p, cap, h0, _⟩ := m.row
  have hll := m.len
  clear m
  go_enter Try.func42, Try.ntmps42
  go_wp2
  all_goals
    go_ret
    refine ⟨ret_int ?_, rfl⟩
    unfold clampN
    omega

/-- how often c lies in the first i of the row -/
def rankOf (l : List Nat) (c : Int) (i : Nat) : Nat := if 0 ≤ c ∧ c ≤ 256 then cntC c.toNat (l.take i) else 0
theorem rank_sym {w : World} {b : Nat} {l : List Nat} (m : MatAt w b l) (c : Nat) (i : Int) (hc : c ≤ 256) :
    Calls Try.prog 26 #[.pointer (some ⟨b, 0, none⟩), .int .i64 c, .int .i64 i] w fun e w' => e = .returned (.int .i64 (cntC c (l.take (clampN i l.length)) : Nat)) ∧ ∃ n, w' = w.drewN n := by
  have HW := Lib.hid (fun j => within_any (m.drewN j) i)
  have HD := Lib.hid (fun j => @down_any _ b l (m.drewN j))
  have hll := m.len
  have hq : clampN i l.length ≤ l.length := by unfold clampN; omega
  have HP := Lib.hid (rank_place l c (fun x hx => by have := m.sym x hx; omega) (by omega) _ hq)
  generalize clampN i l.length = q at *
  clear m
  go_enter Try.func26, Try.ntmps26
  go_wp2_with fail
  refine (HW.out 0).mono ?_
  rintro e w1 ⟨rfl, rfl⟩
  go_wp2
  go_loopw [7, 8, 19] (fun lo hi i wr => ∃ k n : Nat, k ≤ 9 ∧ i = .int .i64 k ∧ lo = .int .i64 (placeK l c k 0 : Nat) ∧ hi = .int .i64 (placeK l c k q : Nat) ∧ wr = w.drewN n) (fun _ _ i _ => 9 - (intOf i).toNat)
  case atStart => exact ⟨0, 0, Nat.zero_le _, rfl, by rw [placeK_zero]; rfl, by rw [placeK_zero], rfl⟩
  case round =>
    obtain ⟨k, n, hk, rfl, rfl, rfl, rfl⟩ := hrel
    have hp0 := placeK_le l c k (Nat.zero_le l.length)
    have hpq := placeK_le l c k hq
    by_cases hlt : k < 9
    · have HB := Lib.hid (fun j => bit_any c k (by omega) hlt (w.drewN j))
      have HDk := Lib.hid (fun j => HD.out j k hlt (wbit c k) _ _ hp0 hpq)
      have HS0 := Lib.hid (placeK_succ l c k 0)
      have HSq := Lib.hid (placeK_succ l c k q)
      generalize wbit c k = s at *
      generalize placeK l c k 0 = lo at *
      generalize placeK l c k q = hi at *
      go_wp2_with (first
        | (go_at_call 40; (with_reducible refine (HB.out _).mono ?_); rintro e w' ⟨rfl, rfl⟩)
        | (go_at_call 41; (with_reducible refine (HDk.out _).mono ?_); rintro e w' ⟨rfl, n, rfl⟩))
      go_roundw
      case rel => exact ⟨k + 1, _, by omega, by go_num, by rw [HS0.out], by rw [HSq.out], rfl⟩
      case measure => simp [intOf]; omega
    · obtain rfl : k = 9 := by omega
      have hm := placeK_mono l c 9 (Nat.zero_le q)
      generalize placeK l c 9 0 = lo at *
      generalize placeK l c 9 q = hi at *
      go_wp2
      go_ret
      exact ⟨ret_int (by have := HP.out; omega), _, rfl⟩
theorem rank_out {w : World} {b : Nat} (c i : Int) (hc : c < 0 ∨ 256 < c) :
    Calls Try.prog 26 #[.pointer (some ⟨b, 0, none⟩), .int .i64 c, .int .i64 i] w fun e w' => e = .returned (.int .i64 0) ∧ ∃ n, w' = w.drewN n := by
  rcases hc with hc | hc
  all_goals
    go_enter Try.func26, Try.ntmps26
    go_wp2
    go_ret
    exact ⟨rfl, 0, rfl⟩
theorem rank_mat {w : World} {b : Nat} {l : List Nat} (m : MatAt w b l) (c i : Int) :
    Calls Try.prog 26 #[.pointer (some ⟨b, 0, none⟩), .int .i64 c, .int .i64 i] w fun e w' => e = .returned (.int .i64 (rankOf l c (clampN i l.length) : Nat)) ∧ ∃ n, w' = w.drewN n := by
  unfold rankOf
  by_cases h : 0 ≤ c ∧ c ≤ 256
  · rw [if_pos h]
    have := rank_sym m c.toNat i (by omega)
    rwa [show ((c.toNat : Nat) : Int) = c by omega] at this
  · rw [if_neg h]
    exact rank_out c i (by omega)
/-- how many of the first i lie below c -/
def lessOf (l : List Nat) (c : Int) (i : Nat) : Nat := ((l.take i).filter fun x : Nat => decide ((x : Int) < c)).length
theorem less_out {w : World} {b : Nat} {l : List Nat} (m : MatAt w b l) (c i : Int) (hc : c ≤ 0 ∨ 256 < c) :
    Calls Try.prog 30 #[.pointer (some ⟨b, 0, none⟩), .int .i64 c, .int .i64 i] w fun e w' => e = .returned (.int .i64 (lessOf l c (clampN i l.length) : Nat)) ∧ ∃ n, w' = w.drewN n := by
  have HW := Lib.hid (fun j => within_any (m.drewN j) i)
  have hq : clampN i l.length ≤ l.length := by unfold clampN; omega
  have hs := m.sym
  generalize clampN i l.length = q at *
  clear m
  rcases hc with hc | hc
  · have HL : Hid (lessOf l c q = 0) := by
      unfold lessOf
      rw [List.filter_eq_nil_iff.2 fun x _ => by simp; omega]; rfl
    clear hs
    go_enter Try.func30, Try.ntmps30
    go_wp2_with fail
    refine (HW.out 0).mono ?_
    rintro e w1 ⟨rfl, rfl⟩
    go_wp2
    go_ret
    exact ⟨by rw [HL.out]; rfl, 0, rfl⟩
  · have HL : Hid (lessOf l c q = q) := by
      unfold lessOf
      rw [List.filter_eq_self.2 fun x hx => by have := hs x (List.mem_of_mem_take hx); simp; omega]
      rw [List.length_take, Nat.min_eq_left hq]; rfl
    clear hs
    go_enter Try.func30, Try.ntmps30
    go_wp2_with fail
    refine (HW.out 0).mono ?_
    rintro e w1 ⟨rfl, rfl⟩
    go_wp2
    go_ret
    exact ⟨by rw [HL.out]; rfl, 0, rfl⟩
theorem lessTo_mono_le (l : List Nat) (c i k : Nat) : lessTo l c i k ≤ l.length := by
  unfold lessTo
  exact Nat.le_trans (List.length_filter_le _ _) (by simp; omega)
theorem less_sym {w : World} {b : Nat} {l : List Nat} (m : MatAt w b l) (c : Nat) (i : Int) (hc0 : 0 < c) (hc : c ≤ 256) :
    Calls Try.prog 30 #[.pointer (some ⟨b, 0, none⟩), .int .i64 c, .int .i64 i] w fun e w' => e = .returned (.int .i64 (lessOf l c (clampN i l.length) : Nat)) ∧ ∃ n, w' = w.drewN n := by
  have HW := Lib.hid (fun j => within_any (m.drewN j) i)
  have HD := Lib.hid (fun j => @down_any _ b l (m.drewN j))
  have hll := m.len
  have hq : clampN i l.length ≤ l.length := by unfold clampN; omega
  have HL := Lib.hid (lessTo_succ l c (fun x hx => by have := m.sym x hx; omega) (by omega) (clampN i l.length) hq)
  have H0 := Lib.hid (lessTo_zero l c (clampN i l.length) (by omega))
  have H9 : Hid (lessTo l c (clampN i l.length) 9 = lessOf l c (clampN i l.length)) := by
    rw [lessTo_nine]; unfold lessOf
    congr 1
    apply List.filter_congr
    intro x _
    exact decide_eq_decide.2 (by omega)
  generalize clampN i l.length = q at *
  clear m
  have hdc : decide ((256 : Int) < (c : Int)) = false := decide_eq_false (by omega)
  have hdc0 : decide (c = 0) = false := decide_eq_false (by omega)
  go_enter Try.func30, Try.ntmps30
  go_wp2_with fail
  refine (HW.out 0).mono ?_
  rintro e w1 ⟨rfl, rfl⟩
  go_wp2
  go_loopw [7, 8, 9, 24] (fun lo hi s i wr => ∃ k n : Nat, k ≤ 9 ∧ i = .int .i64 k ∧ lo = .int .i64 (placeK l c k 0 : Nat) ∧ hi = .int .i64 (placeK l c k q : Nat) ∧ s = .int .i64 (lessTo l c q k : Nat) ∧ wr = w.drewN n) (fun _ _ _ i _ => 9 - (intOf i).toNat)
  case atStart => exact ⟨0, 0, Nat.zero_le _, rfl, by rw [placeK_zero]; rfl, by rw [placeK_zero], by rw [H0.out]; rfl, rfl⟩
  case round =>
    obtain ⟨k, n, hk, rfl, rfl, rfl, rfl, rfl⟩ := hrel
    have hp0 := placeK_le l c k (Nat.zero_le l.length)
    have hpq := placeK_le l c k hq
    have hm := placeK_mono l c k (Nat.zero_le q)
    have hle := lessTo_mono_le l c q k
    by_cases hlt : k < 9
    · have HB := Lib.hid (fun j => bit_any c k (by omega) hlt (w.drewN j))
      have HDk := Lib.hid (fun j => HD.out j k hlt (wbit c k) _ _ hp0 hpq)
      have HDf := Lib.hid (fun j => HD.out j k hlt false _ _ hp0 hpq)
      have HS0 := Lib.hid (placeK_succ l c k 0)
      have HSq := Lib.hid (placeK_succ l c k q)
      have HLk := Lib.hid (HL.out k hlt)
      have hd0 := down_le l k false hp0
      have hdq := down_le l k false hpq
      have hdm := down_mono l k false hm
      have hle2 := lessTo_mono_le l c q (k + 1)
      generalize hwb : wbit c k = s at *
      generalize hS' : lessTo l c q (k + 1) = S' at *
      have HS' := Lib.hid hS'
      clear hS'
      generalize lessTo l c q k = S at *
      cases s
      · have h0 : S' = S := by have := HLk.out; simpa using this
        have HX := Lib.hid h0
        clear h0
        generalize placeK l c k 0 = lo at *
        generalize placeK l c k q = hi at *
        go_wp2_with (first
          | (go_at_call 40; (with_reducible refine (HB.out _).mono ?_); rintro e w' ⟨rfl, rfl⟩)
          | (go_at_call 41; (with_reducible refine (HDk.out _).mono ?_); rintro e w' ⟨rfl, n, rfl⟩))
        go_roundw
        case rel => exact ⟨k + 1, _, by omega, by go_num, by rw [HS0.out], by rw [HSq.out], by rw [HS'.out, HX.out], rfl⟩
        case measure => simp [intOf]; omega
      · have h0 : S' = S + (downK l k false (placeK l c k q) - downK l k false (placeK l c k 0)) := by have := HLk.out; simpa using this
        generalize placeK l c k 0 = lo at *
        generalize placeK l c k q = hi at *
        generalize downK l k false lo = dl at *
        generalize downK l k false hi = dh at *
        go_wp2_with (first
          | (go_at_call 40; (with_reducible refine (HB.out _).mono ?_); rintro e w' ⟨rfl, rfl⟩)
          | (go_at_call 41; (with_reducible refine (HDf.out _).mono ?_); rintro e w' ⟨rfl, n, rfl⟩)
          | (go_at_call 41; (with_reducible refine (HDk.out _).mono ?_); rintro e w' ⟨rfl, n, rfl⟩))
        go_roundw
        case rel => exact ⟨k + 1, _, by omega, by go_num, by rw [HS0.out], by rw [HSq.out], by rw [HS'.out]; congr 1; omega, rfl⟩
        case measure => simp [intOf]; omega
    · obtain rfl : k = 9 := by omega
      generalize lessTo l c q 9 = S at *
      go_wp2
      go_ret
      exact ⟨by rw [← H9.out]; rfl, _, rfl⟩
theorem less_mat {w : World} {b : Nat} {l : List Nat} (m : MatAt w b l) (c i : Int) :
    Calls Try.prog 30 #[.pointer (some ⟨b, 0, none⟩), .int .i64 c, .int .i64 i] w fun e w' => e = .returned (.int .i64 (lessOf l c (clampN i l.length) : Nat)) ∧ ∃ n, w' = w.drewN n := by
  by_cases h : 0 < c ∧ c ≤ 256
  · have := less_sym m c.toNat i (by omega) (by omega)
    rwa [show ((c.toNat : Nat) : Int) = c by omega] at this
  · exact less_out m c i (by omega)
theorem count_mat {w : World} {b : Nat} {l : List Nat} (m : MatAt w b l) (c : Int) :
    Calls Try.prog 24 #[.pointer (some ⟨b, 0, none⟩), .int .i64 c] w fun e w' => e = .returned (.int .i64 (rankOf l c l.length : Nat)) ∧ ∃ n, w' = w.drewN n := by
  have HR := Lib.hid (fun j => rank_mat (m.drewN j) c l.length)
  rw [show clampN (l.length : Int) l.length = l.length by unfold clampN; omega] at HR
  obtain ⟨p, cap, h0, _⟩ := m.row
  have hll := m.len
  clear m
  go_enter Try.func24, Try.ntmps24
  go_wp2_with fail
  refine (HR.out 0).mono ?_
  rintro e w1 ⟨rfl, n, rfl⟩
  go_wp2
  go_ret
  exact ⟨rfl, _, rfl⟩
theorem len_mat {w : World} {b : Nat} {l : List Nat} (m : MatAt w b l) :
    Calls Try.prog 29 #[.pointer (some ⟨b, 0, none⟩)] w fun e w' => e = .returned (.int .i64 l.length) ∧ w = w' := by
  obtain ⟨p, cap, h0, _⟩ := m.row
  have hll := m.len
  clear m
  go_enter Try.func29, Try.ntmps29
  go_wp2
  go_ret
  exact ⟨rfl, rfl⟩
/-- what Get answers -/
def symOf (l : List Nat) (i : Int) : Int := if 0 ≤ i ∧ i < l.length then ((l[i.toNat]?).getD 0 : Nat) else -1
theorem get_mat {w : World} {b : Nat} {l : List Nat} (m : MatAt w b l) (i : Int) :
    Calls Try.prog 27 #[.pointer (some ⟨b, 0, none⟩), .int .i64 i] w fun e w' => e = .returned (.int .i64 (symOf l i)) ∧ w = w' := by
  obtain ⟨p, cap, h0, hs⟩ := m.row
  have hll := m.len
  have hsy := m.sym
  clear m
  by_cases hi : 0 ≤ i ∧ i < l.length
  · have HG : Hid (symOf l i = ((l[i.toNat]?).getD 0 : Nat)) := by unfold symOf; rw [if_pos hi]; rfl
    obtain ⟨k, rfl⟩ := Int.eq_ofNat_of_zero_le hi.1
    have hk : k < l.length := by omega
    rcases hs with rfl | ⟨g, off, rfl, hg, hc⟩
    · simp at hk
    have hcell := hc k hk
    have hx : (l[k]?).getD 0 ≤ 256 := by simp [hk]; exact hsy _ (by simp)
    rw [show ((k : Int).toNat) = k from rfl] at HG
    generalize (l[k]?).getD 0 = x at *
    clear hc hi hsy
    go_enter Try.func27, Try.ntmps27
    go_wp2
    go_ret
    exact ⟨by rw [HG.out]; rfl, rfl⟩
  · have HG : Hid (symOf l i = -1) := by unfold symOf; rw [if_neg hi]; rfl
    clear hsy
    by_cases h1 : i < 0
    all_goals
      go_enter Try.func27, Try.ntmps27
      go_wp2
      go_ret
      exact ⟨by rw [HG.out]; rfl, rfl⟩
end Go.Proofs.Ytekpjfbhhfcjnaa
