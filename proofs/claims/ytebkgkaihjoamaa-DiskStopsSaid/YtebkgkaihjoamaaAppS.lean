/- Append while a stop is set, and on a dead disk. -/
import Derived.Test.YtebkgkaihjoamaaCallS
namespace Go.Proofs.Ytebkgkaihjoamaa
open Go.RowKit Go.Proofs

theorem append1_dxB {base D : Nat} {w : World} {S : St} (h : DX base w D S) (hdead : S.dead = false) (f : Nat) (hf : f ∈ S.fs) (Bd Bb : Nat) (src : Value) (l : List UInt8) (hsrc : Reads w src (cellsOf l))
    (hb1 : Boxed w Bd 23 (.pointer (some ⟨D, 0, none⟩))) (hb2 : Boxed w Bb 29 src) (h1 : (S.con f).1.length + l.length ≤ 200000) (hq : 0 ≤ S.q ∧ S.q ≤ 10000000) (Bx : Nat) (hbx : Boxed w Bx 23 (.pointer (some ⟨D, 0, none⟩))) :
    Calls Try.prog 48 #[fptr f, .pointer (some ⟨Bb, 0, none⟩), .pointer (some ⟨Bd, 0, none⟩)] w fun e w' => ∃ v, e = .returned v ∧ (Appended base w D S f l v w' ∧ Boxed w' Bx 23 (.pointer (some ⟨D, 0, none⟩))) := by
  obtain ⟨v, hv1, hv2, hv3⟩ := h.cells hf
  obtain ⟨es, he, hl⟩ := h.vn
  obtain ⟨vf, N, L, vt, nn, nl, vb, ha⟩ := h.at_
  have hd := ha.d
  have hn := ha.n
  rw [hdead] at hd
  rw [he] at hn
  have hu := h.used_le
  have hue : S.used = sumLeft es (fun _ => true) (lenD fun f => (S.con f).1.length) := by unfold St.used sumD; rw [he]
  rw [hue] at hu
  have hlen : (cellsOf l).length = l.length := by simp [cellsOf]
  refine (append1 hd hn (fun f => (S.con f).1.length) (fun p hp => by
    obtain ⟨g, hg, e⟩ := hl p hp
    obtain ⟨v', a1, a2, _⟩ := h.cells hg
    obtain ⟨pv, cap, rfl⟩ := ownsRow_slice a2
    exact ⟨g, e, (Array.getElem?_eq_some_iff.1 a1).1, pv, cap, by simp [World.cell?, a1]⟩) hu v (S.con f).2 (S.con f).1.length (cellsOf (S.con f).1) (cellsOf l) src hv1 hv2 hsrc (cellsOf_one l) hb1 hb2 h.base_le.1 (by omega) hq).mono ?_
  rintro e w' (⟨a1, rfl, a3⟩ | ⟨a1, rfl, v', b1, b2, b3, b4⟩)
  · refine ⟨_, rfl, ⟨a3.below h.base_le.1 (by simp), .inl ⟨?_, rfl, h.keep a3⟩⟩, a3.boxed hbx (by simp)⟩
    rw [hue]; omega
  · refine ⟨_, rfl, ⟨b3.below h.base_le.1 (fun x hx => ?_), .inr ⟨?_, rfl, h.file hf v v' _ _ ⟨_, hv1⟩ b3 b1 ?_ b4 ?_ ?_⟩⟩, b3.boxed hbx (notin (cells_ne hbx hv1 (by decide)) fun e => own_ne hv2 hbx (by decide) e)⟩
    · rcases List.mem_cons.1 hx with rfl | hx
      · exact hv3
      · exact (hv2.lt x (by simpa using hx)).1
    · rw [hue]; omega
    · rw [List.length_append]
      have : cellsOf ((S.con f).1 ++ l) = cellsOf (S.con f).1 ++ cellsOf l := by simp [cellsOf]
      rw [this]
      rw [hlen] at b2
      exact b2
    · have := (h.bl f hf).1
      rw [List.length_append]; omega
    · rw [List.length_append]; omega

set_option maxRecDepth 100000 in
set_option maxHeartbeats 1000000 in
theorem on_dxB {base D : Nat} {w : World} {S S1 : St} (h : DX base w D S) (R R' : Value → World → Prop) (hdead : S1.dead = false) (s : ByteArray) (hs : s.size ≤ maxLen) (ok : nameOk s = true) (F : Nat) (caps : Array Value)
    (hcf : ∀ A W, (callFunc F A).run Try.prog W = .ok (.enter F A) W) (f : Nat) (hf : fileOf S1.nm s.data.toList = litF f)
    (H : HandedB base (((w.alloc (.cells #[.pointer (some ⟨D, 0, none⟩)] 23)).alloc (.cells #[.string s] 9)).alloc (.cells #[.func (.func F) #[] caps] 84)) D S1 R R')
    (hdo : ∀ W, DX base W D S1 → Keeps [D] w W → Boxed W (w.heap.size + 1 + 1 + 1) 23 (.pointer (some ⟨D, 0, none⟩)) → Calls Try.prog F (#[fptr f] ++ caps) W fun e w' => ∃ v, e = .returned v ∧ R v w') :
    Calls Try.prog 47 #[.pointer (some ⟨D, 0, none⟩), .string s, .func (.func F) #[] caps] w fun e w' => ∃ v, e = .returned v ∧ R' v w' := by
  have HA := Lib.hid (name_any s hs (((w.alloc (.cells #[.pointer (some ⟨D, 0, none⟩)] 23)).alloc (.cells #[.string s] 9)).alloc (.cells #[.func (.func F) #[] caps] 84)))
  rw [ok] at HA
  have b1 := ((Boxed.new w 23 (.pointer (some ⟨D, 0, none⟩))).alloc (.cells #[.string s] 9)).alloc (.cells #[.func (.func F) #[] caps] 84)
  have b2 := (Boxed.new (w.alloc (.cells #[.pointer (some ⟨D, 0, none⟩)] 23)) 9 (.string s)).alloc (.cells #[.func (.func F) #[] caps] 84)
  have b3 := Boxed.new ((w.alloc (.cells #[.pointer (some ⟨D, 0, none⟩)] 23)).alloc (.cells #[.string s] 9)) 84 (.func (.func F) #[] caps)
  simp only [World.size_alloc] at b2 b3
  have kA : Keeps [] w (((w.alloc (.cells #[.pointer (some ⟨D, 0, none⟩)] 23)).alloc (.cells #[.string s] 9)).alloc (.cells #[.func (.func F) #[] caps] 84)) := (((Keeps.refl [] w).alloc _).alloc _).alloc _
  have hDl : D < w.heap.size := by
    obtain ⟨vf, N, L, vt, nn, nl, vb, h1⟩ := h.at_
    exact h1.d.lt
  have hcall := H 59 #[.pointer (some ⟨w.heap.size, 0, none⟩), .pointer (some ⟨w.heap.size + 1, 0, none⟩), .pointer (some ⟨w.heap.size + 1 + 1, 0, none⟩)] callFunc59 (fun W hW kW hbx => by
    simp only [World.size_alloc] at hbx
    have e1 := kW.boxed b1 (by simp; omega)
    have e2 := kW.boxed b2 (by simp; omega)
    have e3 := kW.boxed b3 (by simp; omega)
    obtain ⟨vf, N, L, vt, nn, nl, vb, h1⟩ := hW.at_
    have h1d := h1.d
    rw [hdead] at h1d
    exact on1_hit h1d h1.n s hs f hf e1 e2 caps e3 hcf R fun k => hdo (W.drewN k) (hW.keep ((Keeps.refl [] W).drewN k)) (((kA.mono (by simp)).trans kW).drewN k) hbx)
  have HF := Lib.hid hcall
  have c2 := b2.cell
  have c1 := b1.cell
  clear hcall H hdo h b1 b2 b3 kA
  go_enter Try.func47, Try.ntmps47
  go_wp2_with (first | (go_at_call 32; (with_reducible refine HA.out.mono ?_); rintro e w' ⟨rfl, rfl⟩))
  refine HF.out.mono ?_
  rintro e w' ⟨v, rfl, hR⟩
  have HR := Lib.hid hR
  clear hR
  go_wp2
  go_ret
  exact ⟨v, rfl, HR.out⟩

set_option maxRecDepth 100000 in
set_option maxHeartbeats 1000000 in
theorem append_dxB {base D : Nat} {w : World} {S S1 : St} (h : DX base w D S) (s : ByteArray) (hs : s.size ≤ maxLen) (ok : nameOk s = true) (f : Nat) (hf : fileOf S1.nm s.data.toList = litF f) (hfs : f ∈ S1.fs) (src : Value) (l : List UInt8) (hsrc : Reads w src (cellsOf l)) (hrb : src.rowBlock ≠ some D)
    (R' : Value → World → Prop) (H : HandedB base (((((w.alloc (.cells #[.pointer (some ⟨D, 0, none⟩)] 23)).alloc (.cells #[src] 29)).alloc (.cells #[.pointer (some ⟨D, 0, none⟩)] 23)).alloc (.cells #[.string s] 9)).alloc (.cells #[.func (.func 48) #[] #[.pointer (some ⟨w.heap.size + 1, 0, none⟩), .pointer (some ⟨w.heap.size, 0, none⟩)]] 84)) D S1 (fun v w' => Appended base w D S1 f l v w' ∧ Boxed w' (w.heap.size + 1 + 1 + 1 + 1 + 1) 23 (.pointer (some ⟨D, 0, none⟩))) R') (hdead : S1.dead = false) (h1 : (S1.con f).1.length + l.length ≤ 200000) (hq : 0 ≤ S1.q ∧ S1.q ≤ 10000000) :
    Calls Try.prog 23 #[.pointer (some ⟨D, 0, none⟩), .string s, src] w fun e w' => ∃ v, e = .returned v ∧ R' v w' := by
  have k0 : Keeps [] w ((w.alloc (.cells #[.pointer (some ⟨D, 0, none⟩)] 23)).alloc (.cells #[src] 29)) := ((Keeps.refl [] w).alloc _).alloc _
  have b1 := (Boxed.new w 23 (.pointer (some ⟨D, 0, none⟩))).alloc (.cells #[src] 29)
  have b2 := Boxed.new (w.alloc (.cells #[.pointer (some ⟨D, 0, none⟩)] 23)) 29 src
  rw [World.size_alloc] at b2
  have hDl := h.base_le
  have hon := on_dxB (h.keep k0) _ _ hdead s hs ok 48 #[.pointer (some ⟨w.heap.size + 1, 0, none⟩), .pointer (some ⟨w.heap.size, 0, none⟩)] callFunc48 f hf H (fun W hW kW hbx => by
    simp only [World.size_alloc] at hbx
    have kk : Keeps [D] w W := (k0.mono (by simp)).trans kW
    refine (append1_dxB hW hdead f hfs w.heap.size (w.heap.size + 1) src l (kk.reads hsrc (fun g hg => by simp; exact fun e => hrb (e ▸ hg))) (kW.boxed b1 (by simp; omega)) (kW.boxed b2 (by simp; omega)) h1 hq _ hbx).mono ?_
    rintro e w' ⟨v, he, ⟨hb, hr⟩, hbx'⟩
    exact ⟨v, he, ⟨(kk.below hDl.1 (by simpa using hDl.2.1)).trans hb, hr⟩, hbx'⟩)
  have HF := Lib.hid hon
  have c1 := b1.cell
  obtain ⟨pq, cq, rfl⟩ := hsrc.shape
  clear hon H h hsrc b1 b2 k0
  go_enter Try.func23, Try.ntmps23
  go_wp2_with fail
  refine HF.out.mono ?_
  rintro e w' ⟨v, rfl, hR⟩
  have HR := Lib.hid hR
  clear hR
  go_wp2
  go_ret
  exact ⟨v, rfl, HR.out⟩

/-- on, of a dead disk -/
theorem callFunc59' (A : Array Value) (W : World) : (callFunc 59 A).run Try.prog W = .ok (.enter 59 A) W := by kernel_rfl
set_option maxRecDepth 100000 in
theorem on_dead {base D : Nat} {w : World} {S : St} (h : DX base w D S) (hdead : S.dead = true) (hc : S.c < 4000) (s : ByteArray) (hs : s.size ≤ maxLen) (ok : nameOk s = true) (F : Nat) (caps : Array Value) :
    Calls Try.prog 47 #[.pointer (some ⟨D, 0, none⟩), .string s, .func (.func F) #[] caps] w fun e w' => e = .returned (.int .i64 50) ∧ Below base w w' ∧ DX base w' D S.count := by
  have HA := Lib.hid (name_any s hs (((w.alloc (.cells #[.pointer (some ⟨D, 0, none⟩)] 23)).alloc (.cells #[.string s] 9)).alloc (.cells #[.func (.func F) #[] caps] 84)))
  rw [ok] at HA
  have b1 := ((Boxed.new w 23 (.pointer (some ⟨D, 0, none⟩))).alloc (.cells #[.string s] 9)).alloc (.cells #[.func (.func F) #[] caps] 84)
  have b2 := (Boxed.new (w.alloc (.cells #[.pointer (some ⟨D, 0, none⟩)] 23)) 9 (.string s)).alloc (.cells #[.func (.func F) #[] caps] 84)
  simp only [World.size_alloc] at b2
  have kA : Keeps [] w (((w.alloc (.cells #[.pointer (some ⟨D, 0, none⟩)] 23)).alloc (.cells #[.string s] 9)).alloc (.cells #[.func (.func F) #[] caps] 84)) := (((Keeps.refl [] w).alloc _).alloc _).alloc _
  have h' := h.keep kA
  obtain ⟨vf, N, L, vt, nn, nl, vb, h1⟩ := h'.at_
  have hd := h1.d
  rw [hdead] at hd
  have HC := Lib.hid (call_dead _ D 59 #[.pointer (some ⟨w.heap.size, 0, none⟩), .pointer (some ⟨w.heap.size + 1, 0, none⟩), .pointer (some ⟨w.heap.size + 1 + 1, 0, none⟩)] S.q S.c S.st S.fl S.fe vf N L vt hd ⟨by omega, by omega⟩)
  have hfin : Hid (∀ w', DiskIs w' D S.q (S.c + 1) S.st S.fl S.fe true vf N L vt → Keeps [D] (((w.alloc (.cells #[.pointer (some ⟨D, 0, none⟩)] 23)).alloc (.cells #[.string s] 9)).alloc (.cells #[.func (.func F) #[] caps] 84)) w' → Below base w w' ∧ DX base w' D S.count) := fun w' hd2 k2 => by
    refine ⟨((kA.mono (by simp)).trans k2).below h.base_le.1 (by simpa using h.base_le.2.1), h'.turnD k2 (S.c + 1) S.st S.fl S.fe S.dead ⟨by omega, by omega⟩ fun vf' N' L' vt' hd3 => ?_⟩
    have e1 := h1.d
    unfold DiskIs at e1 hd3
    rw [e1] at hd3
    simp at hd3
    obtain ⟨rfl, rfl, rfl, rfl⟩ := hd3
    rw [hdead]
    exact_mod_cast hd2
  have c2 := b2.cell
  have c1 := b1.cell
  clear h h' h1 hd b1 b2 kA
  go_enter Try.func47, Try.ntmps47
  go_wp2_with (first | (go_at_call 32; (with_reducible refine HA.out.mono ?_); rintro e w' ⟨rfl, rfl⟩))
  refine HC.out.mono ?_
  rintro e w' ⟨rfl, hd2, k2⟩
  have HR := Lib.hid (hfin.out w' hd2 k2)
  clear hd2 k2 hfin
  go_wp2
  go_ret
  exact ⟨rfl, HR.out⟩
set_option maxRecDepth 100000 in
theorem append_dead {base D : Nat} {w : World} {S : St} (h : DX base w D S) (hdead : S.dead = true) (hc : S.c < 4000) (s : ByteArray) (hs : s.size ≤ maxLen) (ok : nameOk s = true) (pq : Option Addr) (m cq : Nat) :
    Calls Try.prog 23 #[.pointer (some ⟨D, 0, none⟩), .string s, .slice pq m cq] w fun e w' => e = .returned (.int .i64 50) ∧ Below base w w' ∧ DX base w' D S.count := by
  have k0 : Keeps [] w ((w.alloc (.cells #[.pointer (some ⟨D, 0, none⟩)] 23)).alloc (.cells #[.slice pq m cq] 29)) := ((Keeps.refl [] w).alloc _).alloc _
  have b1 := (Boxed.new w 23 (.pointer (some ⟨D, 0, none⟩))).alloc (.cells #[.slice pq m cq] 29)
  have hDl := h.base_le
  have HF := Lib.hid (on_dead (h.keep k0) hdead hc s hs ok 48 #[.pointer (some ⟨w.heap.size + 1, 0, none⟩), .pointer (some ⟨w.heap.size, 0, none⟩)])
  have HK := Lib.hid (k0.below (X := []) hDl.1 (by simp))
  have c1 := b1.cell
  clear h b1 k0
  go_enter Try.func23, Try.ntmps23
  go_wp2_with fail
  refine HF.out.mono ?_
  rintro e w' ⟨rfl, hR⟩
  have HR := Lib.hid hR
  clear hR
  go_wp2
  go_ret
  exact ⟨rfl, HK.out.trans HR.out.1, HR.out.2⟩

theorem One.sooner {S : St} {s : ByteArray} {f last : Nat} {b : List UInt8} (o : One S s f b last) : One S.sooner s f b last := ⟨o.nm, o.fs, o.con⟩
/-- Append to the one file while a stop is set -/
theorem append_oneS {base D : Nat} {w : World} {S : St} {s : ByteArray} {f last : Nat} {b : List UInt8} (h : DX base w D S) (o : One S s f b last) (hdead : S.dead = false) (pf : S.fl = 0) (hst : 1 ≤ S.st ∧ S.st ≤ 1000) (hc : S.c < 4000) (hq : S.q = 1048576) (hs : s.size ≤ maxLen) (ok : nameOk s = true) (src : Value) (l : List UInt8) (hsrc : Reads w src (cellsOf l)) (hrb : src.rowBlock ≠ some D) (hl : b.length + l.length ≤ 200000) :
    Calls Try.prog 23 #[.pointer (some ⟨D, 0, none⟩), .string s, src] w fun e w' => e = .returned (.int .i64 0) ∧ Below base w w' ∧ DX base w' D (S.sooner.file f (b ++ l) last).dying := by
  have hu : S.sooner.used = b.length := o.sooner.used
  have k5 : Keeps [] w (((((w.alloc (.cells #[.pointer (some ⟨D, 0, none⟩)] 23)).alloc (.cells #[src] 29)).alloc (.cells #[.pointer (some ⟨D, 0, none⟩)] 23)).alloc (.cells #[.string s] 9)).alloc (.cells #[.func (.func 48) #[] #[.pointer (some ⟨w.heap.size + 1, 0, none⟩), .pointer (some ⟨w.heap.size, 0, none⟩)]] 84)) := (((((Keeps.refl [] w).alloc _).alloc _).alloc _).alloc _).alloc _
  have HS := handed_stop (S2 := S.sooner.file f (b ++ l) last) (h.keep k5) hdead pf hst hc w h.base_le.1
  simp only [World.size_alloc] at HS
  refine (append_dxB (S1 := S.sooner) h s hs ok f o.sooner.file (by show f ∈ S.fs; rw [o.fs]; simp) src l hsrc hrb _ (fun F caps hcf hdo => HS F caps hcf fun W hW kW hbx => (hdo W hW kW (by simpa only [World.size_alloc] using hbx)).mono fun e w' ⟨v, he, ⟨hB, hor⟩, hbx'⟩ => ⟨v, he, ?_, hbx'⟩) hdead (by show (S.con f).1.length + _ ≤ _; rw [o.con]; exact hl) (by show 0 ≤ S.q ∧ S.q ≤ _; rw [hq]; decide)).mono ?_
  · rw [o.sooner.con] at hor
    rcases hor with ⟨h1, _⟩ | ⟨_, rfl, h3⟩
    · exfalso
      rw [hu, show S.sooner.q = 1048576 from hq] at h1
      omega
    · exact ⟨rfl, hB, h3⟩
  · rintro e w' ⟨v, rfl, rfl, h1, h2⟩
    exact ⟨rfl, h1, h2⟩
end Go.Proofs.Ytebkgkaihjoamaa
