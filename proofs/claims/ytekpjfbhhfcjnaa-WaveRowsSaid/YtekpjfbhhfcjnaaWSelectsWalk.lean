/- The walk of concordancelaw8.WaveSelects: it answers true for every input. -/
import Derived.Test.YtekpjfbhhfcjnaaWavePlain
namespace Go.Proofs.Ytekpjfbhhfcjnaa
open Go.RowKit Go.Proofs

/-- which places are seen before the k-th c -/
def seenAt (l : List Nat) (c k t : Nat) : Value := .bool (decide ((l[t]?).getD 0 < c) || ((l[t]?).getD 0 == c && decide (cntC c (l.take t) < k)))
theorem seen_start (l : List Nat) (t : Nat) : seenAt l 0 0 t = .bool false := by simp [seenAt]
theorem seen_hit {l : List Nat} {c k p : Nat} (h : Nth l c k p) : seenAt l c k p = .bool false := by
  obtain ⟨h1, h2⟩ := h
  simp [seenAt, h1, h2]
theorem seen_next {l : List Nat} {c k p : Nat} (h : Nth l c k p) (t : Nat) (ht : t < l.length) : seenAt l c (k + 1) t = if t = p then .bool true else seenAt l c k t := by
  by_cases e : t = p
  · subst e
    obtain ⟨h1, h2⟩ := h
    simp [seenAt, h1, h2]
  · rw [if_neg e]
    unfold seenAt
    by_cases hx : (l[t]?).getD 0 = c
    · have : ¬ cntC c (l.take t) = k := fun h2 => e (Nth.unique h ⟨by rw [List.getElem?_eq_getElem ht] at hx ⊢; simpa using hx, h2⟩)
      have hd : decide (cntC c (l.take t) < k + 1) = decide (cntC c (l.take t) < k) := decide_eq_decide.2 (by omega)
      rw [hd]
    · have : ((l[t]?).getD 0 == c) = false := by simpa using hx
      rw [this, Bool.false_and, Bool.false_and]
theorem seen_turn {l : List Nat} {c : Nat} (t : Nat) (ht : t < l.length) : seenAt l c (cntC c l) t = seenAt l (c + 1) 0 t := by
  unfold seenAt
  by_cases hx : (l[t]?).getD 0 = c
  · have h1 : cntC c (l.take t) < cntC c l := by
      have e : l = l.take t ++ [(l[t]?).getD 0] ++ l.drop (t + 1) := by rw [← take_snoc l t ht, List.take_append_drop]
      have h2 := congrArg (cntC c) e
      rw [cntC_append, cntC_append, cntC_one, if_pos hx] at h2
      omega
    simp [hx, h1]
  · have : decide ((l[t]?).getD 0 < c) = decide ((l[t]?).getD 0 < c + 1) := decide_eq_decide.2 (by omega)
    simp [hx, this]
theorem less_turn (l : List Nat) (c : Nat) : lessOf l ((c : Int) + 1) l.length = lessOf l c l.length + cntC c l := by
  unfold lessOf
  rw [List.take_length]
  induction l with
  | nil => simp [cntC]
  | cons x l ih =>
    have h1 : cntC c (x :: l) = (if x = c then 1 else 0) + cntC c l := by
      rw [show x :: l = [x] ++ l from rfl, cntC_append, cntC_one]
    rw [h1, List.filter_cons, List.filter_cons]
    by_cases hx : x = c
    · rw [if_pos (by simp; omega), if_neg (by simp; omega), if_pos hx, List.length_cons, ih]; omega
    · rw [if_neg hx]
      by_cases hl : (x : Int) < c
      · rw [if_pos (by simp; omega), if_pos (by simp; omega), List.length_cons, List.length_cons, ih]; omega
      · rw [if_neg (by simp; omega), if_neg (by simp; omega), ih]; omega
theorem less_all (l : List Nat) (hs : ∀ x ∈ l, x ≤ 256) : lessOf l 257 l.length = l.length := by
  unfold lessOf
  rw [List.take_length, List.filter_eq_self.2 fun x hx => by have := hs x hx; simp; omega]
theorem less_zero_c (l : List Nat) (i : Nat) : lessOf l ((0 : Nat) : Int) i = 0 := by
  unfold lessOf
  rw [List.filter_eq_nil_iff.2 fun x _ => by simp]; rfl
/-- the places seen, in block s -/
structure Seen (s : Nat) (w2 wr : World) (l : List Nat) (c k : Nat) : Prop where
  row : wr.rowIs s 4 l.length (seenAt l c k)
  below : Below s w2 wr
theorem Seen.drewN {s : Nat} {w2 wr : World} {l : List Nat} {c k : Nat} (h : Seen s w2 wr l c k) (n : Nat) : Seen s w2 (wr.drewN n) l c k := ⟨h.row.of_block rfl, below_drewN h.below n⟩
theorem Seen.next {s : Nat} {w2 wr : World} {l : List Nat} {c k p : Nat} (h : Seen s w2 wr l c k) (hp : Nth l c k p) : Seen s w2 (wr.setCell ⟨s, p, none⟩ (.bool true)) l c (k + 1) :=
  ⟨(h.row.set p (.bool true)).congr fun t ht => (seen_next hp t ht).symm ▸ rfl, h.below.setCell (Nat.le_refl _) _⟩
theorem Seen.turn {s : Nat} {w2 wr : World} {l : List Nat} {c : Nat} (h : Seen s w2 wr l c (cntC c l)) : Seen s w2 wr l (c + 1) 0 := ⟨h.row.congr fun t ht => seen_turn t ht, h.below⟩
attribute [irreducible] seenAt
attribute [local irreducible] rankOf lessOf symOf rowOf

set_option maxRecDepth 100000 in
set_option maxHeartbeats 2000000 in
theorem wselects_walk (p : Option Addr) (cap : Nat) (l : List Nat) (n : Int) (w : World) (hlm : l.length ≤ 9223372036854775807) (hc : BytesAt w p l) (_hn : (Lit.int .i64 n).wf = true) :
    Calls Try.prog 7 #[.slice p l.length cap, .int .i64 n] w (IsTrue w) := by
  obtain ⟨M, hM, hM2⟩ := mask_nat n 10 (by omega)
  rw [show ((2 ^ 10 - 1 : Nat) : Int) = 1023 from rfl] at hM
  have HL := row_any w p cap l M (by omega) hlm hc
  have hlo := rowOf_length l M
  have hsy := rowOf_sym l M hc.small
  generalize rowOf l M = ls at *
  have HL' := Lib.hid HL
  have hbl : ls.length ≤ 1023 := by omega
  have HSy := Lib.hid hsy
  clear HL hc hlo _hn hsy
  go_enter Try.func7, Try.ntmps7
  go_wp2_with fail
  refine HL'.out.mono ?_
  rintro e w1 ⟨v, rfl, hown, hB1⟩
  have HN := Lib.hid (mat_any w1 _ v ls (by omega) HSy.out hown)
  obtain ⟨p1, cap1, rfl, _, hs1⟩ := symsAt_of_owns hown
  have HB1 := Lib.hid hB1
  clear hown hs1 hB1
  go_wp2_with fail
  refine HN.out.mono ?_
  rintro e w2 ⟨b, rfl, hm, hB2⟩
  have HM := Lib.hid hm
  have HB := Lib.hid (below_step HB1.out hB2)
  have hm1 := fun W => run_make_row' (P := Try.prog) 22 4 (.bool false) 1 Try.underlying22 info4 rfl .i64 .i64 ls.length (by omega) (by omega) W
  have HS0 : Hid (Seen w2.heap.size w2 (w2.alloc (.cells (madeCells #[.bool false] ls.length) 4)) ls 0 0) := ⟨(World.rowIs_made w2 (.bool false) ls.length 4).congr fun t _ => (seen_start ls t).symm, (Below.refl _ _).alloc (Nat.le_refl _) _⟩
  clear hm hB2
  go_wp2
  clear hm1
  go_loopw [9, 10] (fun told ci wr => ∃ c : Nat, c ≤ 257 ∧ ci = .int .i64 c ∧ told = .int .i64 (lessOf ls c ls.length : Nat) ∧ Seen w2.heap.size w2 wr ls c 0) (fun _ ci _ => 257 - (intOf ci).toNat)
  case atStart => exact ⟨0, Nat.zero_le _, rfl, by rw [less_zero_c]; rfl, HS0.out⟩
  case round =>
    obtain ⟨c, hc, rfl, rfl, hS⟩ := hrel
    have hle := lessOf_le ls c ls.length
    by_cases hlt : c < 257
    · have HT := Lib.hid (less_turn ls c)
      have hle2 := lessOf_le ls ((c : Int) + 1) ls.length
      have hcc := cntC_le c ls
      have HMr := Lib.hid (HM.out.keep hS.below)
      have HCt : Hid (∀ j, Calls Try.prog 24 #[.pointer (some ⟨b, 0, none⟩), .int .i64 c] (wr.drewN j) fun e w' => e = .returned (.int .i64 (cntC c ls : Nat)) ∧ ∃ n, w' = (wr.drewN j).drewN n) := fun j => by
        have := count_mat (HMr.out.drewN j) c
        rwa [show rankOf ls c ls.length = cntC c ls by unfold rankOf; rw [if_pos ⟨by omega, by omega⟩, List.take_length]; rfl] at this
      have HS := Lib.hid hS
      clear hS
      generalize hL : lessOf ls c ls.length = L at *
      generalize hC : cntC c ls = C at *
      have HC := Lib.hid hC
      rw [HT.out] at hle2
      clear hL hC
      have hdc : decide ((c : Int) < 257) = true := decide_eq_true (by omega)
      have hdc2 : decide (c < 257) = true := decide_eq_true (by omega)
      generalize wr = W at *
      go_wp2_with fail
      refine (HCt.out 0).mono ?_
      rintro e w3 ⟨rfl, n0, rfl⟩
      go_wp2
      go_loopw [9, 12] (fun told ki wr => ∃ k : Nat, k ≤ C ∧ ki = .int .i64 k ∧ told = .int .i64 ((L + k : Nat) : Int) ∧ Seen w2.heap.size w2 wr ls c k) (fun _ ki _ => C - (intOf ki).toNat)
      case atStart => exact ⟨0, Nat.zero_le _, rfl, rfl, HS.out.drewN _⟩
      case round =>
        obtain ⟨k, hk, rfl, rfl, hSk⟩ := hrel
        have HMk := Lib.hid (HM.out.keep hSk.below)
        have HSk := Lib.hid hSk
        clear hSk
        by_cases hkC : k < C
        · have HSe := Lib.hid (select_hit HMk.out c k (by omega) (by rw [HC.out]; exact hkC))
          go_wp2_with fail
          refine HSe.out.mono ?_
          rintro e w4 ⟨q, hN, rfl, n4, rfl⟩
          have hq := hN.lt
          have HRk : Hid (∀ j, Calls Try.prog 26 #[.pointer (some ⟨b, 0, none⟩), .int .i64 c, .int .i64 q] (wr.drewN j) fun e w' => e = .returned (.int .i64 k) ∧ ∃ n, w' = (wr.drewN j).drewN n) := fun j => by
            have := rank_mat (HMk.out.drewN j) c q
            rwa [show rankOf ls c (clampN q ls.length) = k by unfold rankOf; rw [if_pos ⟨by omega, by omega⟩, show clampN (q : Int) ls.length = q by unfold clampN; omega]; exact hN.2] at this
          have HGe : Hid (∀ j, Calls Try.prog 27 #[.pointer (some ⟨b, 0, none⟩), .int .i64 q] (wr.drewN j) fun e w' => e = .returned (.int .i64 c) ∧ wr.drewN j = w') := fun j => by
            have := get_mat (HMk.out.drewN j) q
            rwa [show symOf ls q = c by unfold symOf; rw [if_pos ⟨by omega, by omega⟩, show ((q : Int).toNat) = q from rfl, hN.1]; rfl] at this
          have hcell := HSk.out.row.cell hq
          rw [seen_hit hN] at hcell
          have hfz := HSk.out.row.frozen q
          have HNx := Lib.hid (HSk.out.next hN)
          have HNx2 := Lib.hid (fun j => (HSk.out.drewN j).next hN)
          clear hN
          go_wp2_with (first
            | (go_at_call 26; (with_reducible refine (HRk.out _).mono ?_); rintro e w' ⟨rfl, n, rfl⟩)
            | (go_at_call 27; (with_reducible refine (HGe.out _).mono ?_); rintro e w' ⟨rfl, rfl⟩))
          go_roundw
          case rel => exact ⟨k + 1, by omega, by go_num, rfl, HNx.out.drewN _⟩
          case measure => simp [intOf]; omega
        · obtain rfl : k = C := by omega
          have HTu : Hid (Seen w2.heap.size w2 wr ls (c + 1) 0) := by have := HSk.out; rw [← HC.out] at this; exact this.turn
          have hrk : rankOf ls c ls.length = k := by unfold rankOf; rw [if_pos ⟨by omega, by omega⟩, List.take_length]; exact HC.out
          have HS1 := Lib.hid (fun j => select_miss (HMk.out.drewN j) c k (.inr (by rw [hrk]; exact Int.le_refl _)))
          have HS2 := Lib.hid (fun j => select_miss (HMk.out.drewN j) c (-1) (.inl (by omega)))
          clear hrk
          go_wp2_with fail
          refine (HS1.out 0).mono ?_
          rintro e w4 ⟨rfl, n4, rfl⟩
          go_wp2_with (go_at_call 25; (with_reducible refine (HS2.out _).mono ?_); rintro e w' ⟨rfl, n, rfl⟩)
          go_roundw
          case rel => exact ⟨c + 1, by omega, by go_num, by rw [show (((c + 1 : Nat)) : Int) = (c : Int) + 1 from rfl, HT.out]; rfl, HTu.out.drewN _⟩
          case measure => simp [intOf]; omega
    · obtain rfl : c = 257 := by omega
      have HA : Hid (lessOf ls ((257 : Nat) : Int) ls.length = ls.length) := less_all ls HSy.out
      rw [HA.out] at *
      have HBr := Lib.hid (below_step HB.out hS.below)
      clear hS
      go_wp2_with (go_at_call 28; (with_reducible refine (waw_any _).mono ?_); rintro e w' ⟨rfl, hb⟩)
      go_ret
      exact ⟨rfl, below_step HBr.out hb⟩
end Go.Proofs.Ytekpjfbhhfcjnaa
