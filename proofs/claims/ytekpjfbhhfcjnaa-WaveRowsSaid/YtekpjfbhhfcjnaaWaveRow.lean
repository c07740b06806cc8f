/- Contracts of slices.Clone at symbols and of concordancelaw8.Row: rows of symbols in new memory. -/
import Derived.Test.YtekpjfbhhfcjnaaWaveSel
import Derived.Laws.OwnMore
namespace Go.Proofs.Ytekpjfbhhfcjnaa
open Go.RowKit Go.Proofs

theorem info48 : (Try.prog.info? 48).map (fun i => (i.zero, i.size, i.bytes)) = some (some (.int .u16 0), 1, 2) := by kernel_rfl
/-- a row of symbols in new memory of its own -/
def MadeSyms (l : List Nat) (w : World) (e : Ending) (w' : World) : Prop :=
  ∃ v, e = .returned v ∧ w'.ownsRow w.heap.size 48 1 v l.length (symV l) ∧ Below w.heap.size w w'
theorem clone_any (w : World) (base : Nat) (v : Value) (l : List Nat) (hl : l.length ≤ 100000) (h : w.ownsRow base 48 1 v l.length (symV l)) : Calls Try.prog 39 #[v] w (MadeSyms l w) := by
  obtain ⟨i0, hi, hz0, hz1, hz2⟩ := info_parts info48
  rcases ownsRow_shape h with ⟨rfl, h0⟩ | ⟨g, cap, rfl, hg, hgl⟩
  · obtain rfl : l = [] := List.length_eq_zero_iff.1 h0
    clear h
    have he : ∀ W, (binOp BinOp.eql 41 (.slice none 0 0) (.slice none 0 0)).run Try.prog W = .ok (.bool true) W := fun _ => rfl
    go_enter Try.func39, Try.ntmps39
    go_wp2
    go_ret
    exact ⟨_, rfl, World.ownsRow_nil _ _ _ _, Below.refl _ _⟩
  · have H := Lib.hid h
    clear h
    have he : ∀ W, (binOp BinOp.eql 41 (.slice (some ⟨g, 0, none⟩) l.length cap) (.slice none 0 0)).run Try.prog W = .ok (.bool false) W := fun _ => rfl
    go_enter Try.func39, Try.ntmps39
    go_wp2_with (first | (at_builtin; refine wpList_append_row (by rfl) (.tmp 5) (.tmp 6) 41 rfl w.heap.size 48 i0 (.int .u16 0) 1 2 Try.underlying41 hi hz0 hz1 hz2 rfl (by decide) _ _ _ rfl (World.ownsRow_made w #[] 0 (Nat.le_refl _) (by decide) rfl) base _ _ _ rfl (H.out.alloc _) (symV_one l) ?c1 ?c2 ?c3 ?_))
    case c1 => unfold maxLen; omega
    case c2 => omega
    case c3 => simp
    intro v' w1 hown hgrow
    have hB := ((Below.refl w.heap.size w).alloc (Nat.le_refl _) (.cells #[] 48)).grown hgrow (by simp) (fun k hk => by simp [Value.ownBlock] at hk; omega)
    go_wp2
    go_ret
    refine ⟨_, rfl, ?_, hB⟩
    exact hown

/-- the elements of a slice of bytes -/
def BytesAt (w : World) (p : Option Addr) (l : List Nat) : Prop :=
  l = [] ∨ ∃ b off, p = some ⟨b, off, none⟩ ∧ b < w.heap.size ∧ ∀ i, i < l.length → (l[i]?).getD 0 < 256 ∧ w.cell? ⟨b, off + i, none⟩ = some (.int .u8 ((l[i]?).getD 0 : Nat))
/-- the i-th symbol of the row that the laws make of some bytes -/
def symAt (l : List Nat) (i : Nat) : Nat := if i % 31 = 5 then 256 else if i % 7 = 3 then (l[i % l.length]?).getD 0 % 4 else (l[i % l.length]?).getD 0
def rowOf (l : List Nat) (n : Nat) : List Nat := if l.length = 0 then [] else (List.range n).map (symAt l)
theorem and_three : ∀ x, x < 256 → bits BinOp.and IntKind.u16 (x : Nat) 3 = ((x % 4 : Nat) : Int) := by decide +kernel

theorem row_none (w : World) (p : Option Addr) (m cap : Nat) (n : Int) (h : n ≤ 0 ∨ m = 0) : Calls Try.prog 22 #[.slice p m cap, .int .i64 n] w (MadeSyms [] w) := by
  by_cases hn : 0 < n
  · obtain rfl : m = 0 := by omega
    go_enter Try.func22, Try.ntmps22
    go_wp2
    refine wp_loop_rounds 1 ?_
    rw [rounds_succ]
    go_wp2
    go_ret
    exact ⟨_, rfl, World.ownsRow_nil _ _ _ _, Below.refl _ _⟩
  · go_enter Try.func22, Try.ntmps22
    go_wp2
    refine wp_loop_rounds 1 ?_
    rw [rounds_succ]
    go_wp2
    go_ret
    exact ⟨_, rfl, World.ownsRow_nil _ _ _ _, Below.refl _ _⟩
set_option maxHeartbeats 1000000 in
theorem row_some (w : World) (b off cap : Nat) (l : List Nat) (n : Nat) (hn : n ≤ 100000) (hl0 : 0 < l.length) (hlm : l.length ≤ 9223372036854775807) (hb : b < w.heap.size) (hc : ∀ i, i < l.length → (l[i]?).getD 0 < 256 ∧ w.cell? ⟨b, off + i, none⟩ = some (.int .u8 ((l[i]?).getD 0 : Nat))) :
    Calls Try.prog 22 #[.slice (some ⟨b, off, none⟩) l.length cap, .int .i64 n] w (MadeSyms ((List.range n).map (symAt l)) w) := by
  obtain ⟨i0, hi, hz0, hz1, hz2⟩ := info_parts info48
  go_enter Try.func22, Try.ntmps22
  go_wp2
  go_loopw [5, 6] (fun v i wr => ∃ k : Nat, k ≤ n ∧ i = .int .i64 k ∧ wr.ownsRow w.heap.size 48 1 v k (symV ((List.range k).map (symAt l))) ∧ Below w.heap.size w wr) (fun _ i _ => n - (intOf i).toNat)
  case atStart => exact ⟨0, Nat.zero_le _, rfl, World.ownsRow_nil _ _ _ _, Below.refl _ _⟩
  case round =>
    obtain ⟨k, hk, rfl, hown, hB⟩ := hrel
    by_cases hlt : k < n
    · have hm : k % l.length < l.length := Nat.mod_lt _ hl0
      have hcell := (hB.cell (p := ⟨b, off + k % l.length, none⟩) hb).trans (hc _ hm).2
      have hx := (hc _ hm).1
      have HA := Lib.hid (and_three _ hx)
      have HL : Hid (symAt l k = if k % 31 = 5 then 256 else if k % 7 = 3 then (l[k % l.length]?).getD 0 % 4 else (l[k % l.length]?).getD 0) := rfl
      generalize (l[k % l.length]?).getD 0 = x at *
      have hsz := hB.size
      have HB := Lib.hid hB
      clear hB hc
      have h7 : ((k : Int) % 7 == 3) = decide (k % 7 = 3) := by rw [Bool.eq_iff_iff, beq_iff_eq, decide_eq_true_iff]; omega
      have h31 : ((k : Int) % 31 == 5) = decide (k % 31 = 5) := by rw [Bool.eq_iff_iff, beq_iff_eq, decide_eq_true_iff]; omega
      have hu : ∃ u : Nat, u = symAt l k ∧ (k % 31 = 5 → u = 256) ∧ (¬ k % 31 = 5 → k % 7 = 3 → (u : Int) = bits BinOp.and IntKind.u16 (x : Nat) 3) ∧ (¬ k % 31 = 5 → ¬ k % 7 = 3 → u = x) := by
        refine ⟨_, rfl, fun h => ?_, fun h h' => ?_, fun h h' => ?_⟩
        · rw [HL.out, if_pos h]
        · rw [HL.out, if_neg h, if_pos h', HA.out]
        · rw [HL.out, if_neg h, if_neg h']
      obtain ⟨u, hu, hu1, hu2, hu3⟩ := hu
      have HU := Lib.hid hu
      have HON := Lib.hid hown
      clear hu HL HA hown
      by_cases h31' : k % 31 = 5
      case' pos =>
        have hu' := hu1 h31'
        subst hu'
        rw [decide_eq_true h31'] at h31
        by_cases h7' : k % 7 = 3
        case' pos => rw [decide_eq_true h7'] at h7
        case' neg => rw [decide_eq_false h7'] at h7
        all_goals
          clear hu1 hu2 hu3 h31' h7'
          go_wp2_with (first | (at_builtin; refine wpList_append_own _ rfl (.tmp 34) (.tmp 36) 41 rfl w.heap.size 48 i0 (.int .u16 0) 1 2 Try.underlying41 hi hz0 hz1 hz2 rfl (by decide) _ _ _ rfl (HON.out.alloc _) ⟨wr.heap.size, 0, none⟩ 1 1 [.int .u16 256] rfl rfl ?_ ?_ ?_ ?_ ?_ ?_))
      case' neg =>
        rw [decide_eq_false h31'] at h31
        by_cases h7' : k % 7 = 3
        case' pos =>
          rw [decide_eq_true h7'] at h7
          have HU2 := Lib.hid (hu2 h31' h7')
          clear hu1 hu2 hu3 h31' h7'
          go_wp2_with (first | (at_builtin; refine wpList_append_own _ rfl (.tmp 34) (.tmp 36) 41 rfl w.heap.size 48 i0 (.int .u16 0) 1 2 Try.underlying41 hi hz0 hz1 hz2 rfl (by decide) _ _ _ rfl (HON.out.alloc _) ⟨wr.heap.size, 0, none⟩ 1 1 [.int .u16 (bits BinOp.and IntKind.u16 (x : Nat) 3)] rfl rfl ?_ ?_ ?_ ?_ ?_ ?_))
        case' neg =>
          rw [decide_eq_false h7'] at h7
          have hu4 := hu3 h31' h7'
          subst hu4
          clear hu1 hu2 hu3 h31' h7'
          go_wp2_with (first | (at_builtin; refine wpList_append_own _ rfl (.tmp 34) (.tmp 36) 41 rfl w.heap.size 48 i0 (.int .u16 0) 1 2 Try.underlying41 hi hz0 hz1 hz2 rfl (by decide) _ _ _ rfl (HON.out.alloc _) ⟨wr.heap.size, 0, none⟩ 1 1 [.int .u16 (u : Int)] rfl rfl ?_ ?_ ?_ ?_ ?_ ?_))
      all_goals (first
        | exact cell_one_new _ _ _
        | (intro v' w1 hown' hgrow _
           have hB1 := ((HB.out.alloc hsz (.cells #[_] 48)).grown hgrow (by simp; omega) (fun k hk => (HON.out.lt k hk).1))
           have HX : Hid (w1.ownsRow w.heap.size 48 1 v' (k + 1) (symV ((List.range (k + 1)).map (symAt l)))) := by
             rw [List.range_succ, List.map_append, symV_append, List.map_singleton, ← HU.out]
             try rw [← HU2.out] at hown'
             exact hown'
           clear hown' hgrow
           go_wp2
           go_roundw
           case rel => exact ⟨k + 1, by omega, by go_num, HX.out, hB1⟩
           case measure => simp [intOf]; omega)
        | (intro u hu; simp at hu; subst hu; rfl)
        | (unfold maxLen; omega)
        | omega
        | (simp; omega))
    · go_wp2
      go_ret
      obtain rfl : k = n := by omega
      exact ⟨_, rfl, by simp only [List.length_map, List.length_range]; exact hown, hB⟩

theorem rowOf_length (l : List Nat) (n : Nat) : (rowOf l n).length ≤ n := by
  unfold rowOf; split <;> simp
theorem row_any (w : World) (p : Option Addr) (cap : Nat) (l : List Nat) (n : Nat) (hn : n ≤ 100000) (hlm : l.length ≤ 9223372036854775807) (hc : BytesAt w p l) :
    Calls Try.prog 22 #[.slice p l.length cap, .int .i64 n] w (MadeSyms (rowOf l n) w) := by
  unfold rowOf
  by_cases h0 : l.length = 0
  · rw [if_pos h0]
    exact row_none w p l.length cap n (.inr h0)
  · rw [if_neg h0]
    rcases hc with rfl | ⟨b, off, rfl, hb, hc⟩
    · simp at h0
    · exact row_some w b off cap l n hn (by omega) hlm hb hc
theorem rowOf_sym (l : List Nat) (n : Nat) (h : ∀ i, i < l.length → (l[i]?).getD 0 < 256) : ∀ x ∈ rowOf l n, x ≤ 256 := by
  intro x hx
  unfold rowOf at hx
  split at hx
  · simp at hx
  · obtain ⟨i, _, rfl⟩ := List.mem_map.1 hx
    have := h (i % l.length) (Nat.mod_lt _ (by omega))
    unfold symAt
    split
    · omega
    · split <;> omega
theorem BytesAt.small {w : World} {p : Option Addr} {l : List Nat} (h : BytesAt w p l) : ∀ i, i < l.length → (l[i]?).getD 0 < 256 := by
  rcases h with rfl | ⟨b, off, rfl, hb, hc⟩
  · intro i hi; simp at hi
  · exact fun i hi => (hc i hi).1
end Go.Proofs.Ytekpjfbhhfcjnaa
