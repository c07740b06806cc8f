/- The contracts of wave.Matrix's All and of concordancelaw8.all: the row's symbols, in order, at most so many. -/
import Derived.Test.YtekpjfbhhfcjnaaWavePlain
import Derived.Test.YtekpjfbhhfcjnaaOnesIt
namespace Go.Proofs.Ytekpjfbhhfcjnaa
open Go.RowKit Go.Shelf Go.Proofs

attribute [local go_sem] Oper.semAt_some

/-- the row's places and symbols, below k -/
def pairsTo (l : List Nat) (k : Nat) : List (Nat × Nat) := (List.range k).map fun i => (i, (l[i]?).getD 0)
theorem pairsTo_succ (l : List Nat) (k : Nat) : pairsTo l (k + 1) = pairsTo l k ++ [(k, (l[k]?).getD 0)] := by
  unfold pairsTo; rw [List.range_succ, List.map_append]; rfl
theorem pairsTo_length (l : List Nat) (k : Nat) : (pairsTo l k).length = k := by simp [pairsTo]
theorem pairsTo_pre (l : List Nat) {k m : Nat} (h : k ≤ m) : pairsTo l k <+: pairsTo l m := by
  obtain ⟨d, rfl⟩ : ∃ d, m = k + d := ⟨m - k, by omega⟩
  induction d with
  | zero => exact List.prefix_refl _
  | succ d ih => exact (ih (by omega)).trans (by rw [show k + (d + 1) = (k + d) + 1 from rfl, pairsTo_succ]; exact List.prefix_append _ _)
theorem pairsTo_at (l : List Nat) (n : Nat) {pre : List (Nat × Nat)} {x : Nat × Nat} (h : pre ++ [x] <+: pairsTo l n) : x.1 = pre.length := by
  obtain ⟨t, ht⟩ := h
  have h1 : (pairsTo l n)[pre.length]? = some x := by rw [← ht, List.append_assoc, List.getElem?_append_right (Nat.le_refl _)]; simp
  unfold pairsTo at h1
  rw [List.getElem?_map] at h1
  by_cases hl : pre.length < n
  · rw [List.getElem?_range hl] at h1
    simp at h1
    rw [← h1]
  · rw [List.getElem?_eq_none (by simpa using hl)] at h1
    simp at h1
theorem pairsTo_snd (l : List Nat) : (pairsTo l l.length).map (·.2) = l := by
  unfold pairsTo
  rw [List.map_map]
  apply List.ext_getElem (by simp)
  intro i h1 h2
  simp [h2]

/-- what a loop's body keeps: what lay below n₀, and the box of the iterator's receiver -/
def KpM (n₀ Bn : Nat) (p : Value) (W W' : World) : Prop := Below n₀ W W' ∧ (Boxed W Bn 43 p → Boxed W' Bn 43 p)
theorem KpM.trans {n₀ Bn : Nat} {p : Value} {A B C : World} (h : KpM n₀ Bn p A B) (k : KpM n₀ Bn p B C) : KpM n₀ Bn p A C := ⟨h.1.trans k.1, fun x => k.2 (h.2 x)⟩
theorem KpM.turn {n₀ Bn : Nat} {p : Value} {w : World} (hn : n₀ ≤ w.heap.size) (hb : Bn < w.heap.size) (W : World) (l : Nat) (o o' : Obj) (hl : w.heap.size ≤ l) (h : W.heap[l]? = some o) (h1 : o.isCells = false) (h2 : o.isWalk = false) : KpM n₀ Bn p W (W.putObj l o') :=
  ⟨belowK_b hn W l o o' hl h h1 h2, fun x => x.kept (grownBy_putObj' W l o') (fun e => by cases e; omega)⟩

set_option maxRecDepth 100000 in
set_option maxHeartbeats 1000000 in
theorem all1_in (n : Nat) (hn : 1 ≤ n) (l Bn b : Nat) (ls : List Nat) (w0 : World) (m : MatAt w0 b ls) (J Jx : List (Nat × Nat) → World → Prop)
    (hY : ∀ pre x W, J pre W → pre.length < ls.length → YieldAt Fence.wide (n - 1) Try.prog l #[.int .i64 (x.1 : Nat), .int .i64 (x.2 : Nat)] W fun e W' =>
      (e = .returned (.bool true) ∧ J (pre ++ [x]) W' ∧ KpM w0.heap.size Bn (.pointer (some ⟨b, 0, none⟩)) W W') ∨ (e = .returned (.bool false) ∧ Jx (pre ++ [x]) W'))
    (W : World) (hBn : Boxed W Bn 43 (.pointer (some ⟨b, 0, none⟩))) (hB0 : Below w0.heap.size w0 W) (h0 : J [] W) :
    CallsIn Fence.wide n Try.prog 46 #[.func (.yield l) #[] #[], .pointer (some ⟨Bn, 0, none⟩)] W fun e W' => (∃ v, e = .returned v) ∧
      ((∃ ys, ys = pairsTo ls ls.length ∧ J ys W') ∨ (∃ pre, pre <+: pairsTo ls ls.length ∧ Jx pre W')) := by
  have hl := m.len
  obtain ⟨p, cap, hrow, hs⟩ := m.row
  have c0 := (hB0.cell (p := ⟨b, 0, none⟩) m.hb).trans hrow
  have cB := hBn.cell
  have HS := Lib.hid hs
  have HSy := Lib.hid m.sym
  clear m hs
  refine callsIn_of_wp Try.func46 rfl trivial ?_ rfl
  simp only [Try.ntmps46, List.size_toArray, List.length_cons, List.length_nil, Nat.reduceAdd, Nat.reduceSub, Array.replicate_succ, Array.replicate_zero, List.push_toArray, List.append_toArray, List.nil_append, List.cons_append]
  gi_wp2
  gi_loopw [10] (fun i wr => ∃ k : Nat, k ≤ ls.length ∧ i = .int .i64 k ∧ Boxed wr Bn 43 (.pointer (some ⟨b, 0, none⟩)) ∧ Below w0.heap.size w0 wr ∧ J (pairsTo ls k) wr) (fun i _ => ls.length - (intOf i).toNat)
  case atStart => exact ⟨0, Nat.zero_le _, rfl, hBn, hB0, h0⟩
  case round =>
    obtain ⟨k, hk, rfl, hBr, hBe, hJr⟩ := hrel
    by_cases hlt : k < ls.length
    · rcases HS.out with hnil | ⟨bb, off, rfl, hbb, hcs⟩
      · rw [hnil] at hlt; simp at hlt
      have hcell := (hBe.cell (p := ⟨bb, off + k, none⟩) hbb).trans (hcs k hlt)
      have hx : (ls[k]?).getD 0 ≤ 256 := by rw [List.getElem?_eq_getElem hlt]; exact HSy.out _ (by simp)
      have HY := Lib.hid (hY (pairsTo ls k) (k, (ls[k]?).getD 0) wr hJr (by rw [pairsTo_length]; exact hlt))
      have HM := Lib.hid (pairsTo_succ ls k)
      rw [← HM.out] at HY
      generalize (ls[k]?).getD 0 = x at *
      have HBe := Lib.hid hBe
      clear hY hJr hcs hBe
      gi_wp2_with fail
      obtain ⟨fn, tmps, assign, body, hy, hR⟩ := HY.out
      gi_wp2
      rw [hy]
      gi_wp2
      refine hR.mono ?_
      rintro e W3 (⟨rfl, hJ3, hk3⟩ | ⟨rfl, hJx3⟩)
      · have H1 := Lib.hid (hk3.2 hBr)
        have H2 := Lib.hid (HBe.out.trans hk3.1)
        have H3 := Lib.hid hJ3
        clear hk3 hJ3
        gi_wp2
        go_roundw
        case rel => exact ⟨k + 1, by omega, by go_num, H1.out, H2.out, H3.out⟩
        case measure => simp [intOf]; omega
      · have H3 := Lib.hid hJx3
        clear hJx3
        gi_wp2
        refine bodyPost_ret (results_none rfl _ _ _) rfl ?_
        exact ⟨⟨_, rfl⟩, .inr ⟨pairsTo ls (k + 1), pairsTo_pre ls (by omega), H3.out⟩⟩
    · gi_wp2
      go_end0
      obtain rfl : k = ls.length := by omega
      exact ⟨⟨_, rfl⟩, .inl ⟨_, rfl, hJr⟩⟩

theorem all_stops (n : Nat) (hn : 1 ≤ n) (Bn b : Nat) (ls : List Nat) (w0 w : World) (m : MatAt w0 b ls) (hBw : Boxed w Bn 43 (.pointer (some ⟨b, 0, none⟩))) (hw0 : Below w0.heap.size w0 w) :
    SeqStopsK Fence.wide n Try.prog 46 #[.pointer (some ⟨Bn, 0, none⟩)] (fun x : Nat × Nat => #[Value.int .i64 (x.1 : Int), Value.int .i64 (x.2 : Int)]) (KpM w0.heap.size Bn (.pointer (some ⟨b, 0, none⟩))) (fun ys => ys = pairsTo ls ls.length) (fun pre => pre <+: pairsTo ls ls.length) ls.length w := fun l J Jx W hW _ _ hY h0 =>
  all1_in n hn l Bn b ls w0 m J Jx hY W ((hW.block Bn hBw.lt).trans hBw) (hw0.trans (hW.mono hw0.size)) h0

set_option maxHeartbeats 1000000 in
theorem All_in (n : Nat) (p : Option Addr) (w : World) :
    CallsIn Fence.wide n Try.prog 43 #[.pointer p] w fun e w' => e = .returned (.func (.func 46) #[] #[.pointer (some ⟨w.heap.size, 0, none⟩)]) ∧ w' = w.alloc (.cells #[.pointer p] 43) := by
  refine callsIn_of_wp Try.func43 rfl trivial ?_ rfl
  simp only [Try.ntmps43, List.size_toArray, List.length_cons, List.length_nil, Nat.reduceAdd, Nat.reduceSub, Array.replicate_succ, Array.replicate_zero, List.push_toArray, List.append_toArray, List.nil_append, List.cons_append]
  gi_wp2
  go_ret
  exact ⟨rfl, rfl⟩

theorem run_eql_func_nil73 (f : Fn) (A B : Array Value) (W : World) : (binOp .eql 73 (.func f A B) .nilFunc).run Try.prog W = .ok (.bool false) W := by kernel_rfl
theorem boxed_from {β : Type} {C B : Nat} {t : TypeId} {v : Value} : OwnFrom B (fun (_ : β) W => Boxed W C t v) := fun s A W' row hs hg hr => hs.kept hg (fun e' => by
  obtain ⟨_, o, ho, hc⟩ := hr _ e'.symm
  rw [show A.heap[C]? = _ from hs] at ho; cases ho; cases hc)
end Go.Proofs.Ytekpjfbhhfcjnaa
