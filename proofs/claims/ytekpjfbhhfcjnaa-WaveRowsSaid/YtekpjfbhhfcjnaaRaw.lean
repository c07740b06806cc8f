/- Contracts of bits.empty and bits.Vec's count: a Vec in new memory; the counts ahead of its words. -/
import Derived.Test.YtekpjfbhhfcjnaaVecTwo
import Derived.Deep.OwnRows
import Derived.Test.YtekpjfbhhfcjnaaTail
namespace Go.Proofs.Ytekpjfbhhfcjnaa
open Go.RowKit Go.Proofs

theorem info53 : (Try.prog.info? 53).map (fun i => (i.zero, i.size, i.bytes)) = some (some (.int .u64 0), 1, 8) := by kernel_rfl
theorem info3 : (Try.prog.info? 3).map (fun i => (i.zero, i.size, i.bytes)) = some (some (.int .i64 0), 1, 8) := by kernel_rfl

/-- a Vec that is being made: its words hold f, its counts r -/
structure RawVec (w : World) (b g h n : Nat) (f r : Nat → Nat) : Prop where
  hb : w.heap[b]? = some (.cells #[.int .i64 n, .slice (some ⟨g, 0, none⟩) (words n) (words n), .slice (some ⟨h, 0, none⟩) (words n + 1) (words n + 1)] 56)
  hg : w.rowIs g 53 (words n) (fun i => .int .u64 (f i))
  hh : w.rowIs h 3 (words n + 1) (fun i => .int .i64 (r i))
  bg : b ≠ g
  bh : b ≠ h
  gh : g ≠ h
theorem RawVec.c0 {w : World} {b g h n : Nat} {f r : Nat → Nat} (v : RawVec w b g h n f r) : w.cell? ⟨b, 0, none⟩ = some (.int .i64 n) := by simp [World.cell?, v.hb]
theorem RawVec.c1 {w : World} {b g h n : Nat} {f r : Nat → Nat} (v : RawVec w b g h n f r) : w.cell? ⟨b, 1, none⟩ = some (.slice (some ⟨g, 0, none⟩) (words n) (words n)) := by simp [World.cell?, v.hb]
theorem RawVec.c2 {w : World} {b g h n : Nat} {f r : Nat → Nat} (v : RawVec w b g h n f r) : w.cell? ⟨b, 2, none⟩ = some (.slice (some ⟨h, 0, none⟩) (words n + 1) (words n + 1)) := by simp [World.cell?, v.hb]
theorem RawVec.setG {w : World} {b g h n : Nat} {f r : Nat → Nat} (v : RawVec w b g h n f r) (i x : Nat) : RawVec (w.setCell ⟨g, i, none⟩ (.int .u64 x)) b g h n (fun j => if j = i then x else f j) r :=
  ⟨(Below.heap_setCell _ _ _ _ (by simpa using v.bg)).trans v.hb, (v.hg.set i _).congr (fun j _ => by split <;> rfl), v.hh.setOther (by simpa using v.gh.symm) _, v.bg, v.bh, v.gh⟩
theorem RawVec.setH {w : World} {b g h n : Nat} {f r : Nat → Nat} (v : RawVec w b g h n f r) (i x : Nat) : RawVec (w.setCell ⟨h, i, none⟩ (.int .i64 x)) b g h n f (fun j => if j = i then x else r j) :=
  ⟨(Below.heap_setCell _ _ _ _ (by simpa using v.bh)).trans v.hb, v.hg.setOther (by simpa using v.gh) _, (v.hh.set i _).congr (fun j _ => by split <;> rfl), v.bg, v.bh, v.gh⟩
theorem RawVec.setH' {w : World} {b g h n : Nat} {f r : Nat → Nat} (v : RawVec w b g h n f r) (i x : Nat) {y : Int} (e : y = (x : Nat)) : RawVec (w.setCell ⟨h, i, none⟩ (.int .i64 y)) b g h n f (fun j => if j = i then x else r j) := by
  rw [e]; exact v.setH i x
theorem RawVec.setG' {w : World} {b g h n : Nat} {f r : Nat → Nat} (v : RawVec w b g h n f r) (i x : Nat) {y : Int} (e : y = (x : Nat)) : RawVec (w.setCell ⟨g, i, none⟩ (.int .u64 y)) b g h n (fun j => if j = i then x else f j) r := by
  rw [e]; exact v.setG i x
theorem RawVec.congr {w : World} {b g h n : Nat} {f r f' r' : Nat → Nat} (v : RawVec w b g h n f r) (hf : ∀ i, i < words n → f i = f' i) (hr : ∀ i, i < words n + 1 → r i = r' i) : RawVec w b g h n f' r' :=
  ⟨v.hb, v.hg.congr (fun i hi => by rw [hf i hi]), v.hh.congr (fun i hi => by rw [hr i hi]), v.bg, v.bh, v.gh⟩
theorem RawVec.drewN {w : World} {b g h n : Nat} {f r : Nat → Nat} (v : RawVec w b g h n f r) (m : Nat) : RawVec (w.drewN m) b g h n f r := ⟨v.hb, v.hg, v.hh, v.bg, v.bh, v.gh⟩
theorem RawVec.drew {w : World} {b g h n : Nat} {f r : Nat → Nat} (v : RawVec w b g h n f r) : RawVec w.drew b g h n f r := ⟨v.hb, v.hg, v.hh, v.bg, v.bh, v.gh⟩

theorem RawVec.made (w : World) (n : Nat) : RawVec (((w.alloc (.cells (madeCells #[.int .u64 0] (words n)) 53)).alloc (.cells (madeCells #[.int .i64 0] (words n + 1)) 3)).alloc
    (.cells #[.int .i64 n, .slice (some ⟨w.heap.size, 0, none⟩) (words n) (words n), .slice (some ⟨w.heap.size + 1, 0, none⟩) (words n + 1) (words n + 1)] 56)).drew (w.heap.size + 1 + 1) w.heap.size (w.heap.size + 1) n (fun _ => 0) (fun _ => 0) := by
  refine ⟨?_, ?_, ?_, by omega, by omega, by omega⟩
  · have := heap_alloc_new ((w.alloc (.cells (madeCells #[.int .u64 0] (words n)) 53)).alloc (.cells (madeCells #[.int .i64 0] (words n + 1)) 3)) (.cells #[.int .i64 n, .slice (some ⟨w.heap.size, 0, none⟩) (words n) (words n), .slice (some ⟨w.heap.size + 1, 0, none⟩) (words n + 1) (words n + 1)] 56)
    rw [World.size_alloc, World.size_alloc] at this; exact this
  · exact (((World.rowIs_made w (.int .u64 0) (words n) 53).alloc _).alloc _).drew
  · have := (((World.rowIs_made (w.alloc (.cells (madeCells #[.int .u64 0] (words n)) 53)) (.int .i64 0) (words n + 1) 3)).alloc (.cells #[.int .i64 n, .slice (some ⟨w.heap.size, 0, none⟩) (words n) (words n), .slice (some ⟨w.heap.size + 1, 0, none⟩) (words n + 1) (words n + 1)] 56)).drew
    simpa using this
theorem RawVec.made' (w : World) (n : Nat) : RawVec (((w.alloc (.cells (madeCells #[.int .i64 0] (words n + 1)) 3)).alloc (.cells (madeCells #[.int .u64 0] (words n)) 53)).alloc
    (.cells #[.int .i64 n, .slice (some ⟨w.heap.size + 1, 0, none⟩) (words n) (words n), .slice (some ⟨w.heap.size, 0, none⟩) (words n + 1) (words n + 1)] 56)).drew (w.heap.size + 1 + 1) (w.heap.size + 1) w.heap.size n (fun _ => 0) (fun _ => 0) := by
  refine ⟨?_, ?_, ?_, by omega, by omega, by omega⟩
  · have := heap_alloc_new ((w.alloc (.cells (madeCells #[.int .i64 0] (words n + 1)) 3)).alloc (.cells (madeCells #[.int .u64 0] (words n)) 53)) (.cells #[.int .i64 n, .slice (some ⟨w.heap.size + 1, 0, none⟩) (words n) (words n), .slice (some ⟨w.heap.size, 0, none⟩) (words n + 1) (words n + 1)] 56)
    rw [World.size_alloc, World.size_alloc] at this; exact this
  · have := (((World.rowIs_made (w.alloc (.cells (madeCells #[.int .i64 0] (words n + 1)) 3)) (.int .u64 0) (words n) 53)).alloc (.cells #[.int .i64 n, .slice (some ⟨w.heap.size + 1, 0, none⟩) (words n) (words n), .slice (some ⟨w.heap.size, 0, none⟩) (words n + 1) (words n + 1)] 56)).drew
    simpa using this
  · exact (((World.rowIs_made w (.int .i64 0) (words n + 1) 3).alloc _).alloc _).drew

theorem below3 (w : World) (o o' o'' : Obj) : Below w.heap.size w (((w.alloc o).alloc o').alloc o'').drew := ((((Below.refl _ _).alloc (Nat.le_refl _) o).alloc (by simp) o').alloc (by simp; omega) o'').drew

/-- what empty leaves: a Vec of n bits, none set, in new memory -/
def MadeRaw (n : Nat) (w : World) (e : Ending) (w' : World) : Prop :=
  ∃ b g h, e = .returned (.pointer (some ⟨b, 0, none⟩)) ∧ RawVec w' b g h n (fun _ => 0) (fun _ => 0) ∧ w.heap.size ≤ b ∧ w.heap.size ≤ g ∧ w.heap.size ≤ h ∧ Below w.heap.size w w'
theorem empty_any (n : Nat) (w : World) (hn : n ≤ 100000) : Calls Try.prog 32 #[.int .i64 n] w (MadeRaw n w) := by
  have hW : ((n : Int) + 64 - 1) / 64 = (words n : Nat) := by unfold words; omega
  have hb := words_bd hn
  have hm1 := fun W => run_make_row' (P := Try.prog) 54 53 (.int .u64 0) 8 Try.underlying54 info53 rfl .i64 .i64 (words n) (by omega) (by omega) W
  have hm2 := fun W => run_make_row' (P := Try.prog) 32 3 (.int .i64 0) 8 Try.underlying32 info3 rfl .i64 .i64 (words n + 1) (by omega) (by omega) W
  rw [show ((words n + 1 : Nat) : Int) = (words n : Int) + 1 from rfl] at hm2
  go_enter Try.func32, Try.ntmps32
  go_wp2
  go_region
  all_goals go_wp2
  all_goals go_ret
  · exact ⟨_, _, _, rfl, RawVec.made w n, by omega, by omega, by omega, below3 _ _ _ _⟩
  · exact ⟨_, _, _, rfl, RawVec.made' w n, by omega, by omega, by omega, below3 _ _ _ _⟩

/-- the sum of what f counts below i -/
def upTo (f : Nat → Nat) : Nat → Nat
  | 0 => 0
  | i + 1 => upTo f i + f i
theorem upTo_le (f : Nat → Nat) (m : Nat) (hf : ∀ i, f i ≤ m) : ∀ i, upTo f i ≤ m * i
  | 0 => by simp [upTo]
  | i + 1 => by have := upTo_le f m hf i; have := hf i; simp only [upTo, Nat.mul_add, Nat.mul_one]; omega
theorem count_any (w : World) (b g h n : Nat) (f : Nat → Nat) (hn : n ≤ 100000) (hf : ∀ i, f i < 18446744073709551616) (hv : RawVec w b g h n f (fun _ => 0)) :
    Calls Try.prog 33 #[.pointer (some ⟨b, 0, none⟩)] w fun e w' => e = .returned (.tuple #[]) ∧ RawVec w' b g h n f (upTo (fun i => popN 64 (f i))) ∧ ∀ B, B ≤ h → Below B w w' := by
  have hb := words_bd hn
  have h1 := hv.c1
  have HV := Lib.hid hv
  clear hv
  go_enter Try.func33, Try.ntmps33
  go_wp2
  go_loopw [9] (fun i wr => ∃ k : Nat, k ≤ words n ∧ i = .int .i64 k ∧ RawVec wr b g h n f (fun j => if j ≤ k then upTo (fun i => popN 64 (f i)) j else 0) ∧ ∀ B, B ≤ h → Below B w wr) (fun i _ => words n - (intOf i).toNat)
  case atStart => exact ⟨0, Nat.zero_le _, rfl, HV.out.congr (fun _ _ => rfl) (fun i _ => by cases i <;> simp [upTo]), fun B _ => Below.refl _ _⟩
  case round =>
    obtain ⟨k, hk, rfl, hv, hB⟩ := hrel
    have c1 := hv.c1
    have c2 := hv.c2
    by_cases hlt : k < words n
    · have cg := hv.hg.cell hlt
      have ch := hv.hh.cell (show k < words n + 1 by omega)
      have ch' := hv.hh.cell (show k + 1 < words n + 1 by omega)
      have fh' := hv.hh.frozen (k + 1)
      have hfk := hf k
      simp only [Nat.le_refl, if_true] at ch
      rw [if_neg (by omega)] at ch'
      have hu := upTo_le (fun i => popN 64 (f i)) 64 (fun i => popN_le 64 (f i)) k
      have hp := popN_le 64 (f k)
      have HS := Lib.hid (show upTo (fun i => popN 64 (f i)) (k + 1) = upTo (fun i => popN 64 (f i)) k + popN 64 (f k) from rfl)
      generalize hU : upTo (fun i => popN 64 (f i)) k = u at *
      have HU := Lib.hid hU
      clear hU
      generalize f k = x at *
      have HVr := Lib.hid hv
      have HB := Lib.hid hB
      clear hv hB
      go_wp2
      refine wp_region_tail 17 (by kernel_rfl) (by kernel_rfl) ?_
      simp only [List.take_succ_cons, List.take_zero, List.drop_succ_cons, List.drop_zero]
      repeat (go_big_quiet_step (exact ones64q _ _ _ hfk))
      refine wpQuiet_nil ?_
      rintro _ ⟨nq, rfl⟩
      go_wp2
      go_roundw
      case rel =>
        refine ⟨k + 1, by omega, by go_num, ?_, ?_⟩
        · refine ((HVr.out.drewN nq).setH' (k + 1) (u + popN 64 x) (by omega)).congr (fun _ _ => rfl) (fun i hi => ?_)
          show (if i = k + 1 then u + popN 64 x else if i ≤ k then upTo (fun i => popN 64 (f i)) i else 0) = if i ≤ k + 1 then upTo (fun i => popN 64 (f i)) i else 0
          by_cases e : i = k + 1
          · rw [if_pos e, if_pos (by omega), e, HS.out]
          · rw [if_neg e]
            by_cases e2 : i ≤ k
            · rw [if_pos e2, if_pos (by omega)]
            · rw [if_neg e2, if_neg (by omega)]
        · intro B hB
          exact (below_drewN (HB.out B hB) nq).setCell hB _
      case measure => simp [intOf]; omega
    · go_wp2
      go_end0
      obtain rfl : k = words n := by omega
      exact ⟨rfl, hv.congr (fun _ _ => rfl) (fun i hi => if_pos (by omega)), hB⟩
end Go.Proofs.Ytekpjfbhhfcjnaa
