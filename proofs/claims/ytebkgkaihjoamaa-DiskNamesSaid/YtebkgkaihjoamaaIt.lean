/- The iterator that open hands back: files whose bytes do not all last. -/
import Derived.Test.YtebkgkaihjoamaaOpen
import Derived.Test.YtebkgkaihjoamaaTailIn
import Derived.RangeFuncBox
import Derived.RangeFuncWrites
import Derived.RangeFuncLeaves
import Derived.OwnWalkIn
import Derived.TacticsInMore
import Derived.LoopNIn
import Derived.LoopIn
namespace Go.Proofs.Ytebkgkaihjoamaa
open Go.RowKit Go.Proofs

attribute [local go_sem] Oper.semAt_some

/-- what the iterator leans on: its box of the set, the set, the row of files, each file's cells -/
structure ItAt (base : Nat) (W : World) (B3 M : Nat) (C : List Nat) (vf : Value) (fs : List Nat) (len0 last0 : Nat → Nat) : Prop where
  b : Boxed W B3 72 (.map (some M))
  s : SetAt W M C
  r : W.ownsRow base 62 1 vf fs.length (fs.map fptr)
  f : ∀ f ∈ fs, ∃ p n c, W.heap[f]? = some (.cells #[.slice p n c, .int .i64 (last0 f : Nat)] 64 (0, 0)) ∧ n ≤ len0 f
/-- what a loop's body keeps -/
def KpIt (base B3 M : Nat) (C : List Nat) (vf : Value) (fs : List Nat) (len0 last0 : Nat → Nat) (W W' : World) : Prop := ItAt base W B3 M C vf fs len0 last0 → ItAt base W' B3 M C vf fs len0 last0
theorem ItAt.blocks {base : Nat} {W W' : World} {B3 M : Nat} {C : List Nat} {vf : Value} {fs : List Nat} {len0 last0 : Nat → Nat} (h : ItAt base W B3 M C vf fs len0 last0)
    (hb : W'.heap[B3]? = W.heap[B3]?) (hM : W'.heap[M]? = W.heap[M]?) (hr : ∀ k, vf.ownBlock = some k → W'.heap[k]? = W.heap[k]?) (hf : ∀ f ∈ fs, W'.heap[f]? = W.heap[f]?) : ItAt base W' B3 M C vf fs len0 last0 := by
  refine ⟨hb.trans h.b, h.s.of_block hM, ⟨h.r.1, ?_⟩, fun f hff => ?_⟩
  · rcases h.r.2 with h' | ⟨g, cap, cur, hv, hg, hh, r⟩
    · exact .inl h'
    · exact .inr ⟨g, cap, cur, hv, hg, (hr g (by rw [hv]; rfl)).trans hh, r⟩
  · obtain ⟨p, n, c, h1, h2⟩ := h.f f hff
    exact ⟨p, n, c, (hf f hff).trans h1, h2⟩

set_option maxRecDepth 100000 in
set_option maxHeartbeats 2000000 in
theorem open1_in (n : Nat) (hn : 1 ≤ n) (l B1 B3 M D base : Nat) (C fs : List Nat) (len0 last0 : Nat → Nat) (hC : ∀ g ∈ C, g ∈ fs) (hlen : fs.length ≤ 100000) (hl0 : ∀ f ∈ fs, len0 f ≤ 1000000 ∧ last0 f ≤ 1000000) (J Jx : List {f // f ∈ fs} → World → Prop)
    (q c st fl fe : Int) (dead : Bool) (vf : Value) (N L : Nat) (vt : Value) (W : World)
    (hJa : AbidesFrom W.heap.size J)
    (hY : ∀ pre (x : {f // f ∈ fs}) W, J pre W → pre.length < fs.length → YieldAt Fence.wide (n - 1) Try.prog l #[fptr x.1] W fun e W' =>
      (e = .returned (.bool true) ∧ J (pre ++ [x]) W' ∧ KpIt base B3 M C vf fs len0 last0 W W') ∨ (e = .returned (.bool false) ∧ Jx (pre ++ [x]) W'))
    (hB1 : Boxed W B1 23 (.pointer (some ⟨D, 0, none⟩))) (hD : DiskIs W D q c st fl fe dead vf N L vt) (hI : ItAt base W B3 M C vf fs len0 last0) (h0 : J [] W) :
    CallsIn Fence.wide n Try.prog 54 #[.func (.yield l) #[] #[], .pointer (some ⟨B1, 0, none⟩), .pointer (some ⟨B3, 0, none⟩)] W fun e W' => (∃ v, e = .returned v) ∧
      ((∃ ys : List {f // f ∈ fs}, (ys.length ≤ fs.length ∧ ∀ f rest, fs = f :: rest → f ∈ C → (∃ p c, W.heap[f]? = some (.cells #[.slice p (len0 f) c, .int .i64 (last0 f : Nat)] 64 (0, 0))) → last0 f < len0 f → ∃ x ys', ys = x :: ys' ∧ x.1 = f) ∧ J ys W') ∨ (∃ pre : List {f // f ∈ fs}, True ∧ Jx pre W')) := by
  have c6 : W.cell? ⟨D, 6, none⟩ = some vf := hD.cell 6 _ rfl
  have cB := hB1.cell
  obtain ⟨pf, cf, rfl⟩ := ownsRow_slice hI.r
  have HI := Lib.hid hI
  refine callsIn_of_wp Try.func54 rfl trivial ?_ rfl
  simp only [Try.ntmps54, List.size_toArray, List.length_cons, List.length_nil, Nat.reduceAdd, Nat.reduceSub, Array.replicate_succ, Array.replicate_zero, List.push_toArray, List.append_toArray, List.nil_append, List.cons_append]
  gi_wp2
  gi_loopw [11] (fun i wr => ∃ (k : Nat) (pre : List {f // f ∈ fs}), k ≤ fs.length ∧ i = .int .i64 k ∧ pre.length ≤ k ∧ ItAt base wr B3 M C (.slice pf fs.length cf) fs len0 last0 ∧ J pre wr ∧ (k = 0 → wr = W) ∧
    (1 ≤ k → ∀ f rest, fs = f :: rest → f ∈ C → (∃ p c, W.heap[f]? = some (.cells #[.slice p (len0 f) c, .int .i64 (last0 f : Nat)] 64 (0, 0))) → last0 f < len0 f → ∃ x ys', pre = x :: ys' ∧ x.1 = f)) (fun i _ => fs.length - (intOf i).toNat)
  case atStart => exact ⟨0, [], Nat.zero_le _, rfl, by simp, HI.out, h0, fun _ => rfl, fun h => absurd h (by omega)⟩
  case round =>
    obtain ⟨k, pre, hk, rfl, hpl, hIr, hJr, hk0, hex⟩ := hrel
    by_cases hlt : k < fs.length
    · rcases ownsRow_shape hIr.r with ⟨_, h⟩ | ⟨g, ct, hq, hg, hgl⟩
      · omega
      simp at hq
      obtain ⟨rfl, rfl⟩ := hq
      obtain ⟨f, hf⟩ : ∃ f, fs[k]? = some f := ⟨fs[k], by simp [hlt]⟩
      have hmem : f ∈ fs := List.mem_of_getElem? hf
      have hcell := ownsRow_cell hIr.r k (fptr f) (by rw [List.getElem?_map, hf]; rfl)
      obtain ⟨p, nn, cc, hfc, hnn⟩ := hIr.f f hmem
      have f0 : wr.cell? ⟨f, 0, none⟩ = some (.slice p nn cc) := by simp [World.cell?, hfc]
      have f1 : wr.cell? ⟨f, 1, none⟩ = some (.int .i64 (last0 f : Nat)) := by simp [World.cell?, hfc]
      have b3 := hIr.b.cell
      have hcells : ∀ g ∈ fs, IsCells wr g := fun g hg => by
        obtain ⟨p, n, c, h1, _⟩ := hIr.f g hg
        exact ⟨_, _, h1⟩
      have hlook : ∀ j, (Instr.lookup 72 (.map (some M)) (fptr f) false).run Try.prog (wr.drewN j) = .ok (.bool (C.contains f)) (wr.drewN j) := fun j => SetAt.look (w := wr.drewN j) (hIr.s.of_block rfl) f (hcells f hmem) (fun g hg => hcells g (hC g hg))
      have hb := hl0 f hmem
      have HY := Lib.hid (fun j (hJ : J pre (wr.drewN j)) => hY pre ⟨f, hmem⟩ (wr.drewN j) hJ (by omega))
      have hJd : ∀ j, J pre (wr.drewN j) := fun j => hJa pre wr (wr.drewN j) none hJr ⟨rfl, rfl, rfl, Nat.le_refl _, fun _ _ _ => rfl⟩ (fun r h => by cases h)
      have HJ := Lib.hid hJd
      have HIr := Lib.hid hIr
      have HEx := Lib.hid hex
      have HF := Lib.hid hf
      have HFC := Lib.hid hfc
      have HK0 := Lib.hid hk0
      have HId : Hid (∀ j, ItAt base (wr.drewN j) B3 M C (.slice (some ⟨g, 0, none⟩) fs.length cf) fs len0 last0) := fun j => hIr.blocks rfl rfl (fun _ _ => rfl) (fun _ _ => rfl)
      clear hJd hJr hIr hex hf hfc hcells hY hk0 hI h0 hD hB1
      cases hcb : C.contains f
      · have HCB := Lib.hid hcb
        rw [hcb] at hlook
        have hlk := hlook
        clear hlook
        gi_wp2_with fail
        refine wpIn_region_tail 18 (by kernel_rfl) (by kernel_rfl) ?_
        simp only [List.take_succ_cons, List.take_zero, List.drop_succ_cons, List.drop_zero]
        repeat (go_big_quiet_step (fail))
        refine wpQuiet_nil ?_
        rintro _ ⟨nq, rfl⟩
        gi_wp2_with fail
        refine ⟨fun _ h => (by cases h), ?_⟩
        gi_wp2_with fail
        go_roundw
        case rel =>
          exact ⟨k + 1, pre, by omega, by go_num, by omega, HId.out nq, HJ.out nq, fun h => absurd h (by omega), fun _ f' rest e hC1 hW hlt' => by
            rcases Nat.eq_zero_or_pos k with rfl | hk1
            · exfalso
              have e2 := HF.out
              rw [e] at e2
              obtain rfl : f' = f := by simpa using e2
              have := HCB.out
              simp at this
              exact this hC1
            · exact HEx.out hk1 f' rest e hC1 hW hlt'⟩
        case measure => simp [intOf]; omega
      · rw [hcb] at hlook
        have hlk := hlook
        clear hlook
        by_cases hll : last0 f < nn
        · gi_wp2_with fail
          refine wpIn_region_tail 18 (by kernel_rfl) (by kernel_rfl) ?_
          simp only [List.take_succ_cons, List.take_zero, List.drop_succ_cons, List.drop_zero]
          repeat (go_big_quiet_step (fail))
          refine wpQuiet_nil ?_
          rintro _ ⟨nq, rfl⟩
          obtain ⟨fn, tmps, assign, body, hy, hR⟩ := HY.out nq (HJ.out nq)
          have HR := Lib.hid hR
          clear hR
          gi_wp2_with fail
          refine HR.out.mono ?_
          rintro e W3 (⟨rfl, hJ3, hk3⟩ | ⟨rfl, hJx3⟩)
          · have H1 := Lib.hid (hk3 (HId.out nq))
            have H3 := Lib.hid hJ3
            clear hk3 hJ3
            gi_wp2_with fail
            go_roundw
            case rel =>
              exact ⟨k + 1, pre ++ [⟨f, hmem⟩], by omega, by go_num, by simp; omega, H1.out, H3.out, fun h => absurd h (by omega), fun _ f' rest e hC1 hW hlt' => by
                rcases Nat.eq_zero_or_pos k with rfl | hk1
                · obtain rfl : pre = [] := List.length_eq_zero_iff.1 (by omega)
                  have e2 := HF.out
                  rw [e] at e2
                  obtain rfl : f' = f := by simpa using e2
                  exact ⟨_, _, rfl, rfl⟩
                · obtain ⟨x, ys', e1, e2⟩ := HEx.out hk1 f' rest e hC1 hW hlt'
                  exact ⟨x, ys' ++ [⟨f, hmem⟩], by rw [e1]; rfl, e2⟩⟩
            case measure => simp [intOf]; omega
          · have H3 := Lib.hid hJx3
            clear hJx3
            gi_wp2_with fail
            refine bodyPost_ret (results_none rfl _ _ _) rfl ?_
            exact ⟨⟨_, rfl⟩, .inr ⟨pre ++ [⟨f, hmem⟩], trivial, H3.out⟩⟩
        · gi_wp2_with fail
          refine wpIn_region_tail 18 (by kernel_rfl) (by kernel_rfl) ?_
          simp only [List.take_succ_cons, List.take_zero, List.drop_succ_cons, List.drop_zero]
          repeat (go_big_quiet_step (fail))
          refine wpQuiet_nil ?_
          rintro _ ⟨nq, rfl⟩
          gi_wp2_with fail
          refine ⟨fun _ h => (by cases h), ?_⟩
          gi_wp2_with fail
          go_roundw
          case rel =>
            exact ⟨k + 1, pre, by omega, by go_num, by omega, HId.out nq, HJ.out nq, fun h => absurd h (by omega), fun _ f' rest e hC1 hW hlt' => by
              rcases Nat.eq_zero_or_pos k with rfl | hk1
              · exfalso
                have e2 := HF.out
                rw [e] at e2
                obtain rfl : f' = f := by simpa using e2
                obtain ⟨p', c', h1⟩ := hW
                have e3 := HFC.out
                rw [HK0.out rfl, h1] at e3
                simp at e3
                omega
              · exact HEx.out hk1 f' rest e hC1 hW hlt'⟩
          case measure => simp [intOf]; omega
    · have HJ := Lib.hid hJr
      have HEx := Lib.hid hex
      clear hJr hex hk0 hIr hI h0 hY
      gi_wp2
      go_end0
      obtain rfl : k = fs.length := by omega
      refine ⟨⟨_, rfl⟩, .inl ⟨pre, ⟨by omega, fun f rest e hC1 hW hlt' => ?_⟩, HJ.out⟩⟩
      exact HEx.out (by rw [e]; simp) f rest e hC1 hW hlt'
end Go.Proofs.Ytebkgkaihjoamaa
