/- call and on, in the words of the disk's state. -/
import Derived.Test.YtebkgkaihjoamaaState
namespace Go.Proofs.Ytebkgkaihjoamaa
open Go.RowKit Go.Proofs

/-- a call was counted -/
def St.count (S : St) : St := { S with c := S.c + 1 }
theorem call_dx {base D : Nat} {w : World} {S : St} (h : DX base w D S) (p : S.Plain) (hc : S.c < 4000) (F : Nat) (caps : Array Value) (hcf : ∀ A W, (callFunc F A).run Try.prog W = .ok (.enter F A) W) (R : Value → World → Prop)
    (hdo : ∀ W, DX base W D S.count → Keeps [D] w W → Calls Try.prog F caps W fun e w' => ∃ v, e = .returned v ∧ R v w') :
    Calls Try.prog 33 #[.pointer (some ⟨D, 0, none⟩), .func (.func F) #[] caps] w fun e w' => ∃ v, e = .returned v ∧ R v w' := by
  obtain ⟨vf, N, L, vt, nn, nl, vb, h1⟩ := h.at_
  have hd := h1.d
  rw [p.dead, p.fl] at hd
  have k : Keeps [D] w ((w.setCell ⟨D, 1, none⟩ (.int .i64 ((S.c : Int) + 1))).alloc (.cells #[.pointer (some ⟨D, 0, none⟩)] 23)) := ((Keeps.refl [D] w).setCell _ _ fun _ => by simp).alloc _
  have h2 : DX base ((w.setCell ⟨D, 1, none⟩ (.int .i64 ((S.c : Int) + 1))).alloc (.cells #[.pointer (some ⟨D, 0, none⟩)] 23)) D S.count :=
    h.turnD k (S.c + 1) S.st S.fl S.fe S.dead ⟨by omega, by omega⟩ fun vf N L vt hd => by
      have := (hd.calls ((S.c : Int) + 1)).alloc (.cells #[.pointer (some ⟨D, 0, none⟩)] 23)
      exact_mod_cast this
  exact call_plain w D F caps S.q S.c S.st S.fe vf N L vt hd ⟨by omega, by omega⟩ p.st hcf R (hdo _ h2 k)

/-- what a call hands on to its function: in whatever way it counts and stops -/
def Handed (base : Nat) (w : World) (D : Nat) (S1 : St) (R R' : Value → World → Prop) : Prop :=
  ∀ (w1 : World), Keeps [] w w1 → ∀ (F : Nat) (caps : Array Value), (∀ A W, (callFunc F A).run Try.prog W = .ok (.enter F A) W) →
    (∀ W, DX base W D S1 → Keeps [D] w1 W → Calls Try.prog F caps W fun e w' => ∃ v, e = .returned v ∧ R v w') →
    Calls Try.prog 33 #[.pointer (some ⟨D, 0, none⟩), .func (.func F) #[] caps] w1 fun e w' => ∃ v, e = .returned v ∧ R' v w'
theorem handed_plain {base D : Nat} {w : World} {S : St} (h : DX base w D S) (p : S.Plain) (hc : S.c < 4000) (R : Value → World → Prop) : Handed base w D S.count R R :=
  fun _ k F caps hcf hdo => call_dx (h.keep k) p hc F caps hcf R hdo

set_option maxRecDepth 100000 in
set_option maxHeartbeats 1000000 in
/-- on, at a name that leads to the file f -/
theorem on_dx {base D : Nat} {w : World} {S S1 : St} (h : DX base w D S) (R R' : Value → World → Prop) (H : Handed base w D S1 R R') (hdead : S1.dead = false) (s : ByteArray) (hs : s.size ≤ maxLen) (ok : nameOk s = true) (F : Nat) (caps : Array Value)
    (hcf : ∀ A W, (callFunc F A).run Try.prog W = .ok (.enter F A) W) (f : Nat) (hf : fileOf S1.nm s.data.toList = litF f)
    (hdo : ∀ W, DX base W D S1 → Keeps [D] w W → Calls Try.prog F (#[fptr f] ++ caps) W fun e w' => ∃ v, e = .returned v ∧ R v w') :
    Calls Try.prog 47 #[.pointer (some ⟨D, 0, none⟩), .string s, .func (.func F) #[] caps] w fun e w' => ∃ v, e = .returned v ∧ R' v w' := by
  have HA := Lib.hid (name_any s hs (((w.alloc (.cells #[.pointer (some ⟨D, 0, none⟩)] 23)).alloc (.cells #[.string s] 9)).alloc (.cells #[.func (.func F) #[] caps] 84)))
  rw [ok] at HA
  have b1 := ((Boxed.new w 23 (.pointer (some ⟨D, 0, none⟩))).alloc (.cells #[.string s] 9)).alloc (.cells #[.func (.func F) #[] caps] 84)
  have b2 := (Boxed.new (w.alloc (.cells #[.pointer (some ⟨D, 0, none⟩)] 23)) 9 (.string s)).alloc (.cells #[.func (.func F) #[] caps] 84)
  have b3 := Boxed.new ((w.alloc (.cells #[.pointer (some ⟨D, 0, none⟩)] 23)).alloc (.cells #[.string s] 9)) 84 (.func (.func F) #[] caps)
  simp only [World.size_alloc] at b2 b3
  have kA : Keeps [] w (((w.alloc (.cells #[.pointer (some ⟨D, 0, none⟩)] 23)).alloc (.cells #[.string s] 9)).alloc (.cells #[.func (.func F) #[] caps] 84)) := (((Keeps.refl [] w).alloc _).alloc _).alloc _
  have hDl : D < w.heap.size := by
    obtain ⟨vf, N, L, vt, nn, nl, vb, h1⟩ := h.at_
    exact h1.d.lt
  have hcall := H _ kA 59 #[.pointer (some ⟨w.heap.size, 0, none⟩), .pointer (some ⟨w.heap.size + 1, 0, none⟩), .pointer (some ⟨w.heap.size + 1 + 1, 0, none⟩)] callFunc59 (fun W hW kW => by
    have e1 := kW.boxed b1 (by simp; omega)
    have e2 := kW.boxed b2 (by simp; omega)
    have e3 := kW.boxed b3 (by simp; omega)
    obtain ⟨vf, N, L, vt, nn, nl, vb, h1⟩ := hW.at_
    have h1d := h1.d
    rw [hdead] at h1d
    exact on1_hit h1d h1.n s hs f hf e1 e2 caps e3 hcf R fun k => hdo (W.drewN k) (hW.keep ((Keeps.refl [] W).drewN k)) (((kA.mono (by simp)).trans kW).drewN k))
  have HF := Lib.hid hcall
  have c2 := b2.cell
  have c1 := b1.cell
  clear hcall H hdo h b1 b2 b3 kA
  go_enter Try.func47, Try.ntmps47
  go_wp2_with (first | (go_at_call 32; (with_reducible refine HA.out.mono ?_); rintro e w' ⟨rfl, rfl⟩))
  refine HF.out.mono ?_
  rintro e w' ⟨v, rfl, hR⟩
  have HR := Lib.hid hR
  clear hR
  go_wp2
  go_ret
  exact ⟨v, rfl, HR.out⟩
set_option maxRecDepth 100000 in
set_option maxHeartbeats 1000000 in
/-- on, at a name that is not there -/
theorem on_dx_miss {base D : Nat} {w : World} {S S1 : St} (h : DX base w D S) (R R' : Value → World → Prop) (H : Handed base w D S1 R R') (hdead : S1.dead = false) (s : ByteArray) (hs : s.size ≤ maxLen) (ok : nameOk s = true) (F : Nat) (caps : Array Value)
    (hf : fileOf S1.nm s.data.toList = noFile) (hdo : ∀ W, DX base W D S1 → Keeps [D] w W → R (.int .i64 11) W) :
    Calls Try.prog 47 #[.pointer (some ⟨D, 0, none⟩), .string s, .func (.func F) #[] caps] w fun e w' => ∃ v, e = .returned v ∧ R' v w' := by
  have HA := Lib.hid (name_any s hs (((w.alloc (.cells #[.pointer (some ⟨D, 0, none⟩)] 23)).alloc (.cells #[.string s] 9)).alloc (.cells #[.func (.func F) #[] caps] 84)))
  rw [ok] at HA
  have b1 := ((Boxed.new w 23 (.pointer (some ⟨D, 0, none⟩))).alloc (.cells #[.string s] 9)).alloc (.cells #[.func (.func F) #[] caps] 84)
  have b2 := (Boxed.new (w.alloc (.cells #[.pointer (some ⟨D, 0, none⟩)] 23)) 9 (.string s)).alloc (.cells #[.func (.func F) #[] caps] 84)
  simp only [World.size_alloc] at b2
  have kA : Keeps [] w (((w.alloc (.cells #[.pointer (some ⟨D, 0, none⟩)] 23)).alloc (.cells #[.string s] 9)).alloc (.cells #[.func (.func F) #[] caps] 84)) := (((Keeps.refl [] w).alloc _).alloc _).alloc _
  have hDl : D < w.heap.size := by
    obtain ⟨vf, N, L, vt, nn, nl, vb, h1⟩ := h.at_
    exact h1.d.lt
  have hcall := H _ kA 59 #[.pointer (some ⟨w.heap.size, 0, none⟩), .pointer (some ⟨w.heap.size + 1, 0, none⟩), .pointer (some ⟨w.heap.size + 1 + 1, 0, none⟩)] callFunc59 (fun W hW kW => by
    have e1 := kW.boxed b1 (by simp; omega)
    have e2 := kW.boxed b2 (by simp; omega)
    obtain ⟨vf, N, L, vt, nn, nl, vb, h1⟩ := hW.at_
    have h1d := h1.d
    rw [hdead] at h1d
    exact (on1_miss (B3 := w.heap.size + 1 + 1) h1d h1.n s hs hf e1 e2).mono fun e w' ⟨v, he, hv, hk⟩ => ⟨v, he, by rw [hv]; exact hdo w' (hW.keep hk) (((kA.mono (by simp)).trans kW).trans (hk.mono (by simp)))⟩)
  have HF := Lib.hid hcall
  have c2 := b2.cell
  have c1 := b1.cell
  clear hcall H hdo h b1 b2 kA
  go_enter Try.func47, Try.ntmps47
  go_wp2_with (first | (go_at_call 32; (with_reducible refine HA.out.mono ?_); rintro e w' ⟨rfl, rfl⟩))
  refine HF.out.mono ?_
  rintro e w' ⟨v, rfl, hR⟩
  have HR := Lib.hid hR
  clear hR
  go_wp2
  go_ret
  exact ⟨v, rfl, HR.out⟩
/-- on, at a name that may not be -/
theorem on_bad {D : Nat} {w : World} (s : ByteArray) (hs : s.size ≤ maxLen) (ok : nameOk s = false) (F : Nat) (caps : Array Value) :
    Calls Try.prog 47 #[.pointer (some ⟨D, 0, none⟩), .string s, .func (.func F) #[] caps] w fun e w' => e = .returned (.int .i64 10) ∧ Keeps [] w w' := by
  have HA := Lib.hid (name_any s hs (((w.alloc (.cells #[.pointer (some ⟨D, 0, none⟩)] 23)).alloc (.cells #[.string s] 9)).alloc (.cells #[.func (.func F) #[] caps] 84)))
  rw [ok] at HA
  have b1 := ((Boxed.new w 23 (.pointer (some ⟨D, 0, none⟩))).alloc (.cells #[.string s] 9)).alloc (.cells #[.func (.func F) #[] caps] 84)
  have b2 := (Boxed.new (w.alloc (.cells #[.pointer (some ⟨D, 0, none⟩)] 23)) 9 (.string s)).alloc (.cells #[.func (.func F) #[] caps] 84)
  simp only [World.size_alloc] at b2
  have HK : Hid (Keeps [] w (((w.alloc (.cells #[.pointer (some ⟨D, 0, none⟩)] 23)).alloc (.cells #[.string s] 9)).alloc (.cells #[.func (.func F) #[] caps] 84))) := (((Keeps.refl [] w).alloc _).alloc _).alloc _
  have c2 := b2.cell
  have c1 := b1.cell
  clear b1 b2
  go_enter Try.func47, Try.ntmps47
  go_wp2_with (first | (go_at_call 32; (with_reducible refine HA.out.mono ?_); rintro e w' ⟨rfl, rfl⟩))
  go_ret
  exact ⟨rfl, HK.out⟩
end Go.Proofs.Ytebkgkaihjoamaa
