/- Contracts of disk.Disk's on: a call on a file that has a name. -/
import Derived.Test.YtebkgkaihjoamaaDisk
namespace Go.Proofs.Ytebkgkaihjoamaa
open Go.RowKit Go.Proofs

theorem callFunc59 (A : Array Value) (W : World) : (callFunc 59 A).run Try.prog W = .ok (.enter 59 A) W := by kernel_rfl

set_option maxRecDepth 100000 in
/-- on's closure, where the name leads to a file: the given function is asked of it -/
theorem on1_hit {w : World} {D N n F B1 B2 B3 : Nat} {q c st fl fe : Int} {dead : Bool} {vf : Value} {L : Nat} {vt : Value} {nm : DataW Unit} (h : DiskIs w D q c st fl fe dead vf N L vt) (hN : NamesAt w N n nm) (s : ByteArray) (hs : s.size ≤ maxLen)
    (f : Nat) (hf : fileOf nm s.data.toList = .lit (.int .i64 (f : Nat))) (hb1 : Boxed w B1 23 (.pointer (some ⟨D, 0, none⟩))) (hb2 : Boxed w B2 9 (.string s)) (caps : Array Value) (hb3 : Boxed w B3 84 (.func (.func F) #[] caps))
    (hcf : ∀ A W, (callFunc F A).run Try.prog W = .ok (.enter F A) W) (R : Value → World → Prop) (hdo : ∀ k, Calls Try.prog F (#[fptr f] ++ caps) (w.drewN k) fun e w' => ∃ v, e = .returned v ∧ R v w') :
    Calls Try.prog 59 #[.pointer (some ⟨B1, 0, none⟩), .pointer (some ⟨B2, 0, none⟩), .pointer (some ⟨B3, 0, none⟩)] w fun e w' => ∃ v, e = .returned v ∧ R v w' := by
  have c7 : w.cell? ⟨D, 7, none⟩ = some (.map (some N)) := h.cell 7 _ rfl
  have d1 := hb1.cell
  have d2 := hb2.cell
  have d3 := hb3.cell
  have hl : ∀ a, (Instr.lookup 56 (.map (some N)) (.string s) false).run Try.prog (w.drewN a) = .ok (.pointer (some ⟨f, 0, none⟩)) (w.drewN a) := fun a => NamesAt.look (w := w.drewN a) hN s hs f hf
  have HD := Lib.hid hdo
  clear hdo
  go_enter Try.func59, Try.ntmps59
  go_wp2_with fail
  go_quiet (fail)
  go_wp2_with fail
  refine (HD.out _).mono ?_
  rintro e w' ⟨v, rfl, hR⟩
  have HR := Lib.hid hR
  clear hR
  go_wp2
  go_ret
  exact ⟨v, rfl, HR.out⟩
set_option maxRecDepth 100000 in
theorem on1_miss {w : World} {D N n B1 B2 B3 : Nat} {q c st fl fe : Int} {dead : Bool} {vf : Value} {L : Nat} {vt : Value} {nm : DataW Unit} (h : DiskIs w D q c st fl fe dead vf N L vt) (hN : NamesAt w N n nm) (s : ByteArray) (hs : s.size ≤ maxLen)
    (hf : fileOf nm s.data.toList = .lit (.int .i64 (-1))) (hb1 : Boxed w B1 23 (.pointer (some ⟨D, 0, none⟩))) (hb2 : Boxed w B2 9 (.string s)) :
    Calls Try.prog 59 #[.pointer (some ⟨B1, 0, none⟩), .pointer (some ⟨B2, 0, none⟩), .pointer (some ⟨B3, 0, none⟩)] w fun e w' => ∃ v, e = .returned v ∧ v = .int .i64 11 ∧ Keeps [] w w' := by
  have c7 : w.cell? ⟨D, 7, none⟩ = some (.map (some N)) := h.cell 7 _ rfl
  have d1 := hb1.cell
  have d2 := hb2.cell
  have hl : ∀ a, (Instr.lookup 56 (.map (some N)) (.string s) false).run Try.prog (w.drewN a) = .ok (.pointer none) (w.drewN a) := fun a => NamesAt.miss (w := w.drewN a) hN s hs hf
  go_enter Try.func59, Try.ntmps59
  go_wp2_with fail
  go_quiet (fail)
  go_wp2_with fail
  go_ret
  exact ⟨_, rfl, rfl, (Keeps.refl _ _).drewN _⟩

/-- the world in which on asks its function -/
def onW (w : World) (D : Nat) (s : ByteArray) (fv : Value) (c : Int) : World :=
  ((((w.alloc (.cells #[.pointer (some ⟨D, 0, none⟩)] 23)).alloc (.cells #[.string s] 9)).alloc (.cells #[fv] 84)).setCell ⟨D, 1, none⟩ (.int .i64 (c + 1))).alloc (.cells #[.pointer (some ⟨D, 0, none⟩)] 23)
theorem onW_keeps (w : World) (D : Nat) (s : ByteArray) (fv : Value) (c : Int) : Keeps [D] w (onW w D s fv c) :=
  (((((Keeps.refl [D] w).alloc _).alloc _).alloc _).setCell _ _ fun _ => by simp).alloc _
theorem onW_disk {w : World} {D : Nat} {q c st fl fe : Int} {dead : Bool} {vf : Value} {N L : Nat} {vt : Value} (h : DiskIs w D q c st fl fe dead vf N L vt) (s : ByteArray) (fv : Value) : DiskIs (onW w D s fv c) D q (c + 1) st fl fe dead vf N L vt :=
  ((((h.alloc _).alloc _).alloc _).calls (c + 1)).alloc _

set_option maxRecDepth 100000 in
set_option maxHeartbeats 1000000 in
theorem on_hit {w : World} {D N n F : Nat} {q c st fe : Int} {vf : Value} {L : Nat} {vt : Value} {nm : DataW Unit} (h : DiskIs w D q c st 0 fe false vf N L vt) (hN : NamesAt w N n nm) (s : ByteArray) (hs : s.size ≤ maxLen) (ok : nameOk s = true)
    (f : Nat) (hf : fileOf nm s.data.toList = .lit (.int .i64 (f : Nat))) (caps : Array Value) (hc : 0 ≤ c ∧ c ≤ 1000000) (hst : st ≤ 0)
    (hcf : ∀ A W, (callFunc F A).run Try.prog W = .ok (.enter F A) W) (R : Value → World → Prop)
    (hdo : ∀ k, Calls Try.prog F (#[fptr f] ++ caps) ((onW w D s (.func (.func F) #[] caps) c).drewN k) fun e w' => ∃ v, e = .returned v ∧ R v w') :
    Calls Try.prog 47 #[.pointer (some ⟨D, 0, none⟩), .string s, .func (.func F) #[] caps] w fun e w' => ∃ v, e = .returned v ∧ R v w' := by
  have HA := Lib.hid (name_any s hs (((w.alloc (.cells #[.pointer (some ⟨D, 0, none⟩)] 23)).alloc (.cells #[.string s] 9)).alloc (.cells #[.func (.func F) #[] caps] 84)))
  rw [ok] at HA
  have b1 := ((Boxed.new w 23 (.pointer (some ⟨D, 0, none⟩))).alloc (.cells #[.string s] 9)).alloc (.cells #[.func (.func F) #[] caps] 84)
  have b2 := (Boxed.new (w.alloc (.cells #[.pointer (some ⟨D, 0, none⟩)] 23)) 9 (.string s)).alloc (.cells #[.func (.func F) #[] caps] 84)
  have b3 := Boxed.new ((w.alloc (.cells #[.pointer (some ⟨D, 0, none⟩)] 23)).alloc (.cells #[.string s] 9)) 84 (.func (.func F) #[] caps)
  simp only [World.size_alloc] at b2 b3
  have h0 := ((h.alloc (.cells #[.pointer (some ⟨D, 0, none⟩)] 23)).alloc (.cells #[.string s] 9)).alloc (.cells #[.func (.func F) #[] caps] 84)
  have hDl := h.lt
  have kW := onW_keeps w D s (.func (.func F) #[] caps) c
  have kk : Keeps [D] (((w.alloc (.cells #[.pointer (some ⟨D, 0, none⟩)] 23)).alloc (.cells #[.string s] 9)).alloc (.cells #[.func (.func F) #[] caps] 84)) (onW w D s (.func (.func F) #[] caps) c) :=
    ((Keeps.refl [D] _).setCell _ _ fun _ => by simp).alloc _
  have e1 := kk.boxed b1 (by simp; omega)
  have e2 := kk.boxed b2 (by simp; omega)
  have e3 := kk.boxed b3 (by simp; omega)
  have hon := on1_hit (onW_disk h s (.func (.func F) #[] caps)) (kW.names hN (by simpa using map_ne hN h)) s hs f hf e1 e2 caps e3 hcf R hdo
  unfold onW at hon
  have hcall := call_plain (((w.alloc (.cells #[.pointer (some ⟨D, 0, none⟩)] 23)).alloc (.cells #[.string s] 9)).alloc (.cells #[.func (.func F) #[] caps] 84)) D 59 #[.pointer (some ⟨w.heap.size, 0, none⟩), .pointer (some ⟨w.heap.size + 1, 0, none⟩), .pointer (some ⟨w.heap.size + 1 + 1, 0, none⟩)] q c st fe vf N L vt h0 hc hst callFunc59 R hon
  have HF := Lib.hid hcall
  have c2 := b2.cell
  have c1 := b1.cell
  clear hcall hdo b1 b2 b3 h0 kW kk e1 e2 e3 hon
  go_enter Try.func47, Try.ntmps47
  go_wp2_with (first | (go_at_call 32; (with_reducible refine HA.out.mono ?_); rintro e w' ⟨rfl, rfl⟩))
  refine HF.out.mono ?_
  rintro e w' ⟨v, rfl, hR⟩
  have HR := Lib.hid hR
  clear hR
  go_wp2
  go_ret
  exact ⟨v, rfl, HR.out⟩
end Go.Proofs.Ytebkgkaihjoamaa
