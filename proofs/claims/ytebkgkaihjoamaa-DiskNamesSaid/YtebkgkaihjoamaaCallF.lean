/- call while a failure or a stop is set. -/
import Derived.Test.YtebkgkaihjoamaaOne
import Derived.Test.YtebkgkaihjoamaaFail
namespace Go.Proofs.Ytebkgkaihjoamaa
open Go.RowKit Go.Proofs

set_option maxRecDepth 100000 in
/-- a failure is set, but not for this call -/
theorem call_later (w : World) (D F : Nat) (caps : Array Value) (q c st fl fe : Int) (vf : Value) (N L : Nat) (vt : Value) (hD : DiskIs w D q c st fl fe false vf N L vt) (hc : 0 ≤ c ∧ c ≤ 1000000) (hst : st ≤ 0) (hfl : 2 ≤ fl ∧ fl ≤ 1000)
    (hcf : ∀ A W, (callFunc F A).run Try.prog W = .ok (.enter F A) W) (R : Value → World → Prop)
    (hdo : Calls Try.prog F caps (((w.setCell ⟨D, 1, none⟩ (.int .i64 (c + 1))).setCell ⟨D, 3, none⟩ (.int .i64 (fl - 1))).alloc (.cells #[.pointer (some ⟨D, 0, none⟩)] 23)) fun e w' => ∃ v, e = .returned v ∧ R v w') :
    Calls Try.prog 33 #[.pointer (some ⟨D, 0, none⟩), .func (.func F) #[] caps] w fun e w' => ∃ v, e = .returned v ∧ R v w' := by
  have h0 := hD.alloc (.cells #[.pointer (some ⟨D, 0, none⟩)] 23)
  have h1 := (hD.calls (c + 1)).alloc (.cells #[.pointer (some ⟨D, 0, none⟩)] 23)
  have c1 : (w.alloc (.cells #[.pointer (some ⟨D, 0, none⟩)] 23)).cell? ⟨D, 1, none⟩ = some (.int .i64 c) := h0.cell 1 _ rfl
  have f1 := h0.frozen 1
  have c2 : ((w.setCell ⟨D, 1, none⟩ (.int .i64 (c + 1))).alloc (.cells #[.pointer (some ⟨D, 0, none⟩)] 23)).cell? ⟨D, 2, none⟩ = some (.int .i64 st) := h1.cell 2 _ rfl
  have c3 : ((w.setCell ⟨D, 1, none⟩ (.int .i64 (c + 1))).alloc (.cells #[.pointer (some ⟨D, 0, none⟩)] 23)).cell? ⟨D, 3, none⟩ = some (.int .i64 fl) := h1.cell 3 _ rfl
  have f3 := h1.frozen 3
  have c5 : ((w.setCell ⟨D, 1, none⟩ (.int .i64 (c + 1))).alloc (.cells #[.pointer (some ⟨D, 0, none⟩)] 23)).cell? ⟨D, 5, none⟩ = some (.bool false) := h1.cell 5 _ rfl
  have c3b : (((w.setCell ⟨D, 1, none⟩ (.int .i64 (c + 1))).setCell ⟨D, 3, none⟩ (.int .i64 (fl - 1))).alloc (.cells #[.pointer (some ⟨D, 0, none⟩)] 23)).cell? ⟨D, 3, none⟩ = some (.int .i64 (fl - 1)) := (((hD.calls (c + 1)).fails (fl - 1)).alloc _).cell 3 _ rfl
  have hne : ((fl - 1 : Int) == 0) = false := beq_eq_false_iff_ne.2 (by omega)
  have hlt := hD.lt
  have HD := Lib.hid hdo
  clear hdo hD h0 h1
  go_enter Try.func33, Try.ntmps33
  go_wp2_with fail
  refine HD.out.mono ?_
  rintro e w' ⟨v, rfl, hR⟩
  have HR := Lib.hid hR
  clear hR
  go_wp2
  go_ret
  exact ⟨v, rfl, HR.out⟩
set_option maxRecDepth 100000 in
/-- this call fails -/
theorem call_now (w : World) (D F : Nat) (caps : Array Value) (q c st fe : Int) (vf : Value) (N L : Nat) (vt : Value) (hD : DiskIs w D q c st 1 fe false vf N L vt) (hc : 0 ≤ c ∧ c ≤ 1000000) (hst : st ≤ 0) :
    Calls Try.prog 33 #[.pointer (some ⟨D, 0, none⟩), .func (.func F) #[] caps] w fun e w' => e = .returned (.int .i64 fe) ∧ DiskIs w' D q (c + 1) st 0 fe false vf N L vt ∧ Keeps [D] w w' := by
  have h0 := hD.alloc (.cells #[.pointer (some ⟨D, 0, none⟩)] 23)
  have h1 := (hD.calls (c + 1)).alloc (.cells #[.pointer (some ⟨D, 0, none⟩)] 23)
  have h2 := ((hD.calls (c + 1)).fails 0).alloc (.cells #[.pointer (some ⟨D, 0, none⟩)] 23)
  have c1 : (w.alloc (.cells #[.pointer (some ⟨D, 0, none⟩)] 23)).cell? ⟨D, 1, none⟩ = some (.int .i64 c) := h0.cell 1 _ rfl
  have f1 := h0.frozen 1
  have c2 : ((w.setCell ⟨D, 1, none⟩ (.int .i64 (c + 1))).alloc (.cells #[.pointer (some ⟨D, 0, none⟩)] 23)).cell? ⟨D, 2, none⟩ = some (.int .i64 st) := h1.cell 2 _ rfl
  have c3 : ((w.setCell ⟨D, 1, none⟩ (.int .i64 (c + 1))).alloc (.cells #[.pointer (some ⟨D, 0, none⟩)] 23)).cell? ⟨D, 3, none⟩ = some (.int .i64 1) := h1.cell 3 _ rfl
  have f3 := h1.frozen 3
  have c5 : ((w.setCell ⟨D, 1, none⟩ (.int .i64 (c + 1))).alloc (.cells #[.pointer (some ⟨D, 0, none⟩)] 23)).cell? ⟨D, 5, none⟩ = some (.bool false) := h1.cell 5 _ rfl
  have c4 : (((w.setCell ⟨D, 1, none⟩ (.int .i64 (c + 1))).setCell ⟨D, 3, none⟩ (.int .i64 0)).alloc (.cells #[.pointer (some ⟨D, 0, none⟩)] 23)).cell? ⟨D, 4, none⟩ = some (.int .i64 fe) := h2.cell 4 _ rfl
  have c3b : (((w.setCell ⟨D, 1, none⟩ (.int .i64 (c + 1))).setCell ⟨D, 3, none⟩ (.int .i64 0)).alloc (.cells #[.pointer (some ⟨D, 0, none⟩)] 23)).cell? ⟨D, 3, none⟩ = some (.int .i64 0) := h2.cell 3 _ rfl
  have hlt := hD.lt
  have H2 := Lib.hid h2
  have HK : Hid (Keeps [D] w (((w.setCell ⟨D, 1, none⟩ (.int .i64 (c + 1))).setCell ⟨D, 3, none⟩ (.int .i64 0)).alloc (.cells #[.pointer (some ⟨D, 0, none⟩)] 23))) := (((Keeps.refl [D] w).setCell _ _ fun _ => by simp).setCell _ _ fun _ => by simp).alloc _
  clear hD h0 h1 h2
  go_enter Try.func33, Try.ntmps33
  go_wp2_with fail
  go_ret
  exact ⟨rfl, H2.out, HK.out⟩

/-- a call was counted, and brought the failure nearer -/
def St.nearer (S : St) : St := { S with c := S.c + 1, fl := S.fl - 1 }
theorem handed_later {base D : Nat} {w : World} {S : St} (h : DX base w D S) (hdead : S.dead = false) (hst : S.st ≤ 0) (hfl : 2 ≤ S.fl ∧ S.fl ≤ 1000) (hc : S.c < 4000) (R : Value → World → Prop) : Handed base w D S.nearer R R :=
  fun w1 k F caps hcf hdo => by
    have h' := h.keep k
    obtain ⟨vf, N, L, vt, nn, nl, vb, h1⟩ := h'.at_
    have hd := h1.d
    rw [hdead] at hd
    have kk : Keeps [D] w1 (((w1.setCell ⟨D, 1, none⟩ (.int .i64 ((S.c : Int) + 1))).setCell ⟨D, 3, none⟩ (.int .i64 (S.fl - 1))).alloc (.cells #[.pointer (some ⟨D, 0, none⟩)] 23)) := (((Keeps.refl [D] w1).setCell _ _ fun _ => by simp).setCell _ _ fun _ => by simp).alloc _
    have h2 : DX base (((w1.setCell ⟨D, 1, none⟩ (.int .i64 ((S.c : Int) + 1))).setCell ⟨D, 3, none⟩ (.int .i64 (S.fl - 1))).alloc (.cells #[.pointer (some ⟨D, 0, none⟩)] 23)) D S.nearer :=
      h'.turnD kk (S.c + 1) S.st (S.fl - 1) S.fe S.dead ⟨by omega, by omega⟩ fun vf N L vt hd => by
        have := ((hd.calls ((S.c : Int) + 1)).fails (S.fl - 1)).alloc (.cells #[.pointer (some ⟨D, 0, none⟩)] 23)
        exact_mod_cast this
    exact call_later w1 D F caps S.q S.c S.st S.fl S.fe vf N L vt hd ⟨by omega, by omega⟩ hst hfl hcf R (hdo _ h2 kk)
theorem handed_now {base D : Nat} {w : World} {S : St} (h : DX base w D S) (hdead : S.dead = false) (hst : S.st ≤ 0) (hfl : S.fl = 1) (hc : S.c < 4000) (R : Value → World → Prop) :
    Handed base w D S.nearer R (fun v w' => v = .int .i64 S.fe ∧ Below base w w' ∧ DX base w' D S.nearer) :=
  fun w1 k F caps hcf hdo => by
    have h' := h.keep k
    obtain ⟨vf, N, L, vt, nn, nl, vb, h1⟩ := h'.at_
    have hd := h1.d
    rw [hdead, hfl] at hd
    refine (call_now w1 D F caps S.q S.c S.st S.fe vf N L vt hd ⟨by omega, by omega⟩ hst).mono ?_
    rintro e w' ⟨rfl, d, kk⟩
    refine ⟨_, rfl, rfl, (k.below h.base_le'.1 (by simp)).trans (kk.below h'.base_le'.1 (by simpa using h.base_le'.2)), h'.turnD kk (S.c + 1) S.st (S.fl - 1) S.fe S.dead ⟨by omega, by omega⟩ fun vf2 N2 L2 vt2 hd2 => ?_⟩
    have hd3 := h1.d
    unfold DiskIs at hd3 hd2
    rw [hd3] at hd2
    simp at hd2
    obtain ⟨rfl, rfl, rfl, rfl⟩ := hd2
    rw [hdead, hfl]
    exact_mod_cast d
end Go.Proofs.Ytebkgkaihjoamaa
