/- call while a stop is set, and on a dead disk. -/
import Derived.Defers
import Derived.Test.YtebkgkaihjoamaaCrashOne
import Derived.Test.YtebkgkaihjoamaaStop
namespace Go.Proofs.Ytebkgkaihjoamaa
open Go.RowKit Go.Proofs

set_option maxRecDepth 100000 in
set_option maxHeartbeats 2000000 in
/-- what call defers where a stop is set -/
theorem stop1 {w : World} {D B : Nat} {q c st fl fe : Int} {dead : Bool} {vf : Value} {N L : Nat} {vt : Value} (hD : DiskIs w D q c st fl fe dead vf N L vt) (hb : Boxed w B 23 (.pointer (some ⟨D, 0, none⟩))) (u : FrameMode) :
    CallsD Try.prog 52 #[.pointer (some ⟨B, 0, none⟩)] u w fun e u' w' => u' = u ∧ ((∃ v, e = .returned v) ∧ DiskIs w' D q c st fl fe (dead || (st == 0)) vf N L vt ∧ Keeps [D] w w') := by
  have c0 := hb.cell
  have c5 : w.cell? ⟨D, 5, none⟩ = some (.bool dead) := hD.cell 5 _ rfl
  have c2 : w.cell? ⟨D, 2, none⟩ = some (.int .i64 st) := hD.cell 2 _ rfl
  have f5 := hD.frozen 5
  have H : Hid (DiskIs ((w.setCell ⟨D, 5, none⟩ (.bool (dead || (st == 0)))).drew) D q c st fl fe (dead || (st == 0)) vf N L vt ∧ Keeps [D] w ((w.setCell ⟨D, 5, none⟩ (.bool (dead || (st == 0)))).drew)) := ⟨hD.deads _, ((Keeps.refl [D] w).setCell _ _ fun _ => by simp).drew⟩
  clear hD hb
  go_enter_d Try.func52, Try.ntmps52
  cases dead
  · go_wp2_with (go_region)
    go_end0
    exact ⟨⟨_, rfl⟩, H.out⟩
  · go_wp2_with (go_region)
    go_end0
    exact ⟨⟨_, rfl⟩, H.out⟩

set_option maxRecDepth 100000 in
set_option maxHeartbeats 2000000 in
/-- a stop is set -/
theorem call_stop (w : World) (D F : Nat) (caps : Array Value) (q c st fe : Int) (vf : Value) (N L : Nat) (vt : Value) (hD : DiskIs w D q c st 0 fe false vf N L vt) (hc : 0 ≤ c ∧ c ≤ 1000000) (hst : 1 ≤ st ∧ st ≤ 1000)
    (hcf : ∀ A W, (callFunc F A).run Try.prog W = .ok (.enter F A) W) (R : Value → World → Prop)
    (hdo : Calls Try.prog F caps (((w.setCell ⟨D, 1, none⟩ (.int .i64 (c + 1))).setCell ⟨D, 2, none⟩ (.int .i64 (st - 1))).alloc (.cells #[.pointer (some ⟨D, 0, none⟩)] 23)) fun e w' => ∃ v, e = .returned v ∧ R v w')
    (R' : Value → World → Prop) (hR : ∀ v w', R v w' → Boxed w' w.heap.size 23 (.pointer (some ⟨D, 0, none⟩)) ∧ ∃ q c st fl fe dead vf N L vt, DiskIs w' D q c st fl fe dead vf N L vt ∧ ∀ w2, DiskIs w2 D q c st fl fe (dead || (st == 0)) vf N L vt → Keeps [D] w' w2 → R' v w2) :
    Calls Try.prog 33 #[.pointer (some ⟨D, 0, none⟩), .func (.func F) #[] caps] w fun e w' => ∃ v, e = .returned v ∧ R' v w' := by
  have hmf : ∀ (fn : Fn) (first cap : Array Value) (w : World), (Instr.makeFunc fn first cap).run Try.prog w = .ok (.func fn first cap) w := fun _ _ _ _ => rfl
  have h0 := hD.alloc (.cells #[.pointer (some ⟨D, 0, none⟩)] 23)
  have h1 := (hD.calls (c + 1)).alloc (.cells #[.pointer (some ⟨D, 0, none⟩)] 23)
  have h2 := ((hD.calls (c + 1)).stops (st - 1)).alloc (.cells #[.pointer (some ⟨D, 0, none⟩)] 23)
  have c1 : (w.alloc (.cells #[.pointer (some ⟨D, 0, none⟩)] 23)).cell? ⟨D, 1, none⟩ = some (.int .i64 c) := h0.cell 1 _ rfl
  have f1 := h0.frozen 1
  have c2 : ((w.setCell ⟨D, 1, none⟩ (.int .i64 (c + 1))).alloc (.cells #[.pointer (some ⟨D, 0, none⟩)] 23)).cell? ⟨D, 2, none⟩ = some (.int .i64 st) := h1.cell 2 _ rfl
  have f2 := h1.frozen 2
  have c3 : (((w.setCell ⟨D, 1, none⟩ (.int .i64 (c + 1))).setCell ⟨D, 2, none⟩ (.int .i64 (st - 1))).alloc (.cells #[.pointer (some ⟨D, 0, none⟩)] 23)).cell? ⟨D, 3, none⟩ = some (.int .i64 0) := h2.cell 3 _ rfl
  have c5 : ((w.setCell ⟨D, 1, none⟩ (.int .i64 (c + 1))).alloc (.cells #[.pointer (some ⟨D, 0, none⟩)] 23)).cell? ⟨D, 5, none⟩ = some (.bool false) := h1.cell 5 _ rfl
  have hlt := hD.lt
  have HD := Lib.hid hdo
  have HR := Lib.hid hR
  clear hdo hD h0 h1 h2 hR
  go_enter_defers Try.func33, Try.ntmps33
  go_wp2_with fail
  refine HD.out.mono ?_
  rintro e w' ⟨v, rfl, hR⟩
  have hr := Lib.hid (HR.out v w' hR)
  clear hR
  go_wp2
  obtain ⟨hb, q, c, st, fl, fe, dead, vf, N, L, vt, hd, hfin⟩ := hr.out
  refine leaves_cons (f := 52) (args := #[.pointer (some ⟨w.heap.size, 0, none⟩)]) (by simp) (by simp [go_sem]) ?_
  refine (stop1 hd hb .returning).mono ?_
  rintro e u' w'' ⟨rfl, ⟨v', rfl⟩, hd2, hk⟩
  simp [Leaves, settle, results, Try.results33, go_sem]
  exact hfin w'' hd2 hk

set_option maxRecDepth 100000 in
/-- the disk is dead -/
theorem call_dead (w : World) (D F : Nat) (caps : Array Value) (q c st fl fe : Int) (vf : Value) (N L : Nat) (vt : Value) (hD : DiskIs w D q c st fl fe true vf N L vt) (hc : 0 ≤ c ∧ c ≤ 1000000) :
    Calls Try.prog 33 #[.pointer (some ⟨D, 0, none⟩), .func (.func F) #[] caps] w fun e w' => e = .returned (.int .i64 50) ∧ DiskIs w' D q (c + 1) st fl fe true vf N L vt ∧ Keeps [D] w w' := by
  have h0 := hD.alloc (.cells #[.pointer (some ⟨D, 0, none⟩)] 23)
  have h1 := (hD.calls (c + 1)).alloc (.cells #[.pointer (some ⟨D, 0, none⟩)] 23)
  have c1 : (w.alloc (.cells #[.pointer (some ⟨D, 0, none⟩)] 23)).cell? ⟨D, 1, none⟩ = some (.int .i64 c) := h0.cell 1 _ rfl
  have f1 := h0.frozen 1
  have c5 : ((w.setCell ⟨D, 1, none⟩ (.int .i64 (c + 1))).alloc (.cells #[.pointer (some ⟨D, 0, none⟩)] 23)).cell? ⟨D, 5, none⟩ = some (.bool true) := h1.cell 5 _ rfl
  have hlt := hD.lt
  have H2 := Lib.hid h1
  have HK : Hid (Keeps [D] w ((w.setCell ⟨D, 1, none⟩ (.int .i64 (c + 1))).alloc (.cells #[.pointer (some ⟨D, 0, none⟩)] 23))) := ((Keeps.refl [D] w).setCell _ _ fun _ => by simp).alloc _
  clear hD h0 h1
  go_enter Try.func33, Try.ntmps33
  go_wp2_with fail
  go_ret
  exact ⟨rfl, H2.out, HK.out⟩

/-- what a call hands on to its function where a stop is set: at one world; the function must leave the call's box as it is -/
def HandedB (base : Nat) (w1 : World) (D : Nat) (S1 : St) (R R' : Value → World → Prop) : Prop :=
  ∀ (F : Nat) (caps : Array Value), (∀ A W, (callFunc F A).run Try.prog W = .ok (.enter F A) W) →
    (∀ W, DX base W D S1 → Keeps [D] w1 W → Boxed W w1.heap.size 23 (.pointer (some ⟨D, 0, none⟩)) → Calls Try.prog F caps W fun e w' => ∃ v, e = .returned v ∧ R v w') →
    Calls Try.prog 33 #[.pointer (some ⟨D, 0, none⟩), .func (.func F) #[] caps] w1 fun e w' => ∃ v, e = .returned v ∧ R' v w'
/-- a call was counted, and brought the stop nearer -/
def St.sooner (S : St) : St := { S with c := S.c + 1, st := S.st - 1 }
def St.dying (S : St) : St := { S with dead := S.dead || (S.st == 0) }
theorem handed_stop {base D : Nat} {w : World} {S S2 : St} (h : DX base w D S) (p0 : S.dead = false) (pf : S.fl = 0) (hst : 1 ≤ S.st ∧ S.st ≤ 1000) (hc : S.c < 4000) (w0 : World) (hb0 : base ≤ w0.heap.size) :
    HandedB base w D S.sooner (fun v w' => Grown base w0 D S2 v w' ∧ Boxed w' w.heap.size 23 (.pointer (some ⟨D, 0, none⟩))) (Grown base w0 D S2.dying) :=
  fun F caps hcf hdo => by
    obtain ⟨vf, N, L, vt, nn, nl, vb, h1⟩ := h.at_
    have hd := h1.d
    rw [p0, pf] at hd
    have kk : Keeps [D] w (((w.setCell ⟨D, 1, none⟩ (.int .i64 ((S.c : Int) + 1))).setCell ⟨D, 2, none⟩ (.int .i64 (S.st - 1))).alloc (.cells #[.pointer (some ⟨D, 0, none⟩)] 23)) := (((Keeps.refl [D] w).setCell _ _ fun _ => by simp).setCell _ _ fun _ => by simp).alloc _
    have h2 : DX base (((w.setCell ⟨D, 1, none⟩ (.int .i64 ((S.c : Int) + 1))).setCell ⟨D, 2, none⟩ (.int .i64 (S.st - 1))).alloc (.cells #[.pointer (some ⟨D, 0, none⟩)] 23)) D S.sooner :=
      h.turnD kk (S.c + 1) (S.st - 1) S.fl S.fe S.dead ⟨by omega, by omega⟩ fun vf N L vt hd => by
        have := ((hd.calls ((S.c : Int) + 1)).stops (S.st - 1)).alloc (.cells #[.pointer (some ⟨D, 0, none⟩)] 23)
        exact_mod_cast this
    have hb : Boxed (((w.setCell ⟨D, 1, none⟩ (.int .i64 ((S.c : Int) + 1))).setCell ⟨D, 2, none⟩ (.int .i64 (S.st - 1))).alloc (.cells #[.pointer (some ⟨D, 0, none⟩)] 23)) w.heap.size 23 (.pointer (some ⟨D, 0, none⟩)) := by
      have := Boxed.new ((w.setCell ⟨D, 1, none⟩ (.int .i64 ((S.c : Int) + 1))).setCell ⟨D, 2, none⟩ (.int .i64 (S.st - 1))) 23 (.pointer (some ⟨D, 0, none⟩))
      simpa using this
    refine call_stop w D F caps S.q S.c S.st S.fe vf N L vt hd ⟨by omega, by omega⟩ hst hcf _ (hdo _ h2 kk hb) _ ?_
    rintro v w' ⟨⟨rfl, hB, hX⟩, hbx⟩
    refine ⟨hbx, ?_⟩
    obtain ⟨vf, N, L, vt, nn, nl, vb, h3⟩ := hX.at_
    refine ⟨_, _, _, _, _, _, _, _, _, _, h3.d, fun w2 hd2 k2 => ⟨rfl, hB.trans (k2.below (Nat.le_trans hb0 hB.size) (by simpa using h.base_le.2.1)), ?_⟩⟩
    refine hX.turnD k2 S2.c S2.st S2.fl S2.fe (S2.dead || (S2.st == 0)) ⟨Nat.le_refl _, hX.sc⟩ fun vf' N' L' vt' hd3 => ?_
    have e1 := h3.d
    unfold DiskIs at e1 hd3
    rw [e1] at hd3
    simp at hd3
    obtain ⟨rfl, rfl, rfl, rfl⟩ := hd3
    exact hd2
end Go.Proofs.Ytebkgkaihjoamaa
