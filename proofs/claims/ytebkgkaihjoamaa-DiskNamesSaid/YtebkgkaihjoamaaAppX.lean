/- Append and Sync, in the words of the disk's state. -/
import Derived.Test.YtebkgkaihjoamaaCallX
import Derived.Test.YtebkgkaihjoamaaAppend
import Derived.Test.YtebkgkaihjoamaaSync
namespace Go.Proofs.Ytebkgkaihjoamaa
open Go.RowKit Go.Proofs

theorem Handed.keep {base D : Nat} {w w' : World} {S1 : St} {R R' : Value → World → Prop} (h : Handed base w D S1 R R') (k : Keeps [] w w') : Handed base w' D S1 R R' := fun w1 k1 => h w1 (k.trans k1)
theorem DX.base_le {base D : Nat} {w : World} {S : St} (h : DX base w D S) : base ≤ w.heap.size ∧ base ≤ D ∧ D < w.heap.size := by
  obtain ⟨vf, N, L, vt, nn, nl, vb, h1⟩ := h.at_
  exact ⟨h1.bw, h1.bD, h1.d.lt⟩
theorem sumLeft_cons (p : Lit × DataW Unit) (es : List (Lit × DataW Unit)) (len : DataW Unit → Nat) : sumLeft (p :: es) (fun _ => true) len = len p.2 + sumLeft es (fun _ => true) len := by simp [sumLeft]
theorem sumLeft_le (B : Nat) (len : DataW Unit → Nat) : ∀ (es : List (Lit × DataW Unit)), (∀ p ∈ es, len p.2 ≤ B) → sumLeft es (fun _ => true) len ≤ es.length * B
  | [], _ => by simp [sumLeft]
  | p :: es, h => by
    have ih := sumLeft_le B len es fun q hq => h q (by simp [hq])
    have h1 := h p (by simp)
    rw [sumLeft_cons, List.length_cons, Nat.succ_mul]
    omega
theorem lenD_litF (len : Nat → Nat) (f : Nat) : lenD len (litF f) = len f := rfl
theorem DX.used_le {base D : Nat} {w : World} {S : St} (h : DX base w D S) : S.used ≤ 1000000000 := by
  obtain ⟨es, he, hl⟩ := h.vn
  unfold St.used sumD
  rw [he]
  simp only
  have h1 := sumLeft_le 200000 (lenD fun f => (S.con f).1.length) es fun p hp => by
    obtain ⟨f, hf, e⟩ := hl p hp
    rw [e, lenD_litF]
    exact (h.bl f hf).2
  have h2 : es.length ≤ 4000 := by
    have := h.sn
    rw [he] at this
    have h3 := h.sc
    simp only [Maps.size] at this
    omega
  have : es.length * 200000 ≤ 4000 * 200000 := Nat.mul_le_mul_right _ h2
  omega

/-- what Append answers -/
def Appended (base : Nat) (w : World) (D : Nat) (S1 : St) (f : Nat) (l : List UInt8) (v : Value) (w' : World) : Prop :=
  Below base w w' ∧ ((S1.q < S1.used + l.length ∧ v = .int .i64 15 ∧ DX base w' D S1) ∨ ((S1.used + l.length : Int) ≤ S1.q ∧ v = .int .i64 0 ∧ DX base w' D (S1.file f ((S1.con f).1 ++ l) (S1.con f).2)))
theorem append1_dx {base D : Nat} {w : World} {S : St} (h : DX base w D S) (hdead : S.dead = false) (f : Nat) (hf : f ∈ S.fs) (Bd Bb : Nat) (src : Value) (l : List UInt8) (hsrc : Reads w src (cellsOf l))
    (hb1 : Boxed w Bd 23 (.pointer (some ⟨D, 0, none⟩))) (hb2 : Boxed w Bb 29 src) (h1 : (S.con f).1.length + l.length ≤ 200000) (hq : 0 ≤ S.q ∧ S.q ≤ 10000000) :
    Calls Try.prog 48 #[fptr f, .pointer (some ⟨Bb, 0, none⟩), .pointer (some ⟨Bd, 0, none⟩)] w fun e w' => ∃ v, e = .returned v ∧ Appended base w D S f l v w' := by
  obtain ⟨v, hv1, hv2, hv3⟩ := h.cells hf
  obtain ⟨es, he, hl⟩ := h.vn
  obtain ⟨vf, N, L, vt, nn, nl, vb, ha⟩ := h.at_
  have hd := ha.d
  have hn := ha.n
  rw [hdead] at hd
  rw [he] at hn
  have hu := h.used_le
  have hue : S.used = sumLeft es (fun _ => true) (lenD fun f => (S.con f).1.length) := by unfold St.used sumD; rw [he]
  rw [hue] at hu
  have hlen : (cellsOf l).length = l.length := by simp [cellsOf]
  refine (append1 hd hn (fun f => (S.con f).1.length) (fun p hp => by
    obtain ⟨g, hg, e⟩ := hl p hp
    obtain ⟨v', a1, a2, _⟩ := h.cells hg
    obtain ⟨pv, cap, rfl⟩ := ownsRow_slice a2
    exact ⟨g, e, (Array.getElem?_eq_some_iff.1 a1).1, pv, cap, by simp [World.cell?, a1]⟩) hu v (S.con f).2 (S.con f).1.length (cellsOf (S.con f).1) (cellsOf l) src hv1 hv2 hsrc (cellsOf_one l) hb1 hb2 h.base_le.1 (by omega) hq).mono ?_
  rintro e w' (⟨a1, rfl, a3⟩ | ⟨a1, rfl, v', b1, b2, b3, b4⟩)
  · refine ⟨_, rfl, a3.below h.base_le.1 (by simp), .inl ⟨?_, rfl, h.keep a3⟩⟩
    rw [hue]; omega
  · refine ⟨_, rfl, b3.below h.base_le.1 (fun x hx => ?_), .inr ⟨?_, rfl, h.file hf v v' _ _ ⟨_, hv1⟩ b3 b1 ?_ b4 ?_ ?_⟩⟩
    · rcases List.mem_cons.1 hx with rfl | hx
      · exact hv3
      · exact (hv2.lt x (by simpa using hx)).1
    · rw [hue]; omega
    · rw [List.length_append]
      have : cellsOf ((S.con f).1 ++ l) = cellsOf (S.con f).1 ++ cellsOf l := by simp [cellsOf]
      rw [this]
      rw [hlen] at b2
      exact b2
    · have := (h.bl f hf).1
      rw [List.length_append]; omega
    · rw [List.length_append]; omega
theorem callFunc48 (A : Array Value) (W : World) : (callFunc 48 A).run Try.prog W = .ok (.enter 48 A) W := by kernel_rfl

set_option maxRecDepth 100000 in
/-- Append, of a name that is there -/
theorem append_dx {base D : Nat} {w : World} {S S1 : St} (h : DX base w D S) (s : ByteArray) (hs : s.size ≤ maxLen) (ok : nameOk s = true) (f : Nat) (hf : fileOf S1.nm s.data.toList = litF f) (hfs : f ∈ S1.fs) (src : Value) (l : List UInt8) (hsrc : Reads w src (cellsOf l)) (hrb : src.rowBlock ≠ some D)
    (R' : Value → World → Prop) (H : Handed base w D S1 (Appended base w D S1 f l) R') (hdead : S1.dead = false) (h1 : (S1.con f).1.length + l.length ≤ 200000) (hq : 0 ≤ S1.q ∧ S1.q ≤ 10000000) :
    Calls Try.prog 23 #[.pointer (some ⟨D, 0, none⟩), .string s, src] w fun e w' => ∃ v, e = .returned v ∧ R' v w' := by
  have k0 : Keeps [] w ((w.alloc (.cells #[.pointer (some ⟨D, 0, none⟩)] 23)).alloc (.cells #[src] 29)) := ((Keeps.refl [] w).alloc _).alloc _
  have b1 := (Boxed.new w 23 (.pointer (some ⟨D, 0, none⟩))).alloc (.cells #[src] 29)
  have b2 := Boxed.new (w.alloc (.cells #[.pointer (some ⟨D, 0, none⟩)] 23)) 29 src
  rw [World.size_alloc] at b2
  have hDl := h.base_le
  have hon := on_dx (h.keep k0) _ _ (H.keep k0) hdead s hs ok 48 #[.pointer (some ⟨w.heap.size + 1, 0, none⟩), .pointer (some ⟨w.heap.size, 0, none⟩)] callFunc48 f hf (fun W hW kW => by
    have kk : Keeps [D] w W := (k0.mono (by simp)).trans kW
    refine (append1_dx hW hdead f hfs w.heap.size (w.heap.size + 1) src l (kk.reads hsrc (fun g hg => by simp; exact fun e => hrb (e ▸ hg))) (kW.boxed b1 (by simp; omega)) (kW.boxed b2 (by simp; omega)) h1 hq).mono ?_
    rintro e w' ⟨v, he, hb, hr⟩
    exact ⟨v, he, (kk.below hDl.1 (by simpa using hDl.2.1)).trans hb, hr⟩)
  have HF := Lib.hid hon
  have c1 := b1.cell
  obtain ⟨pq, cq, rfl⟩ := hsrc.shape
  clear hon H h hsrc b1 b2 k0
  go_enter Try.func23, Try.ntmps23
  go_wp2_with fail
  refine HF.out.mono ?_
  rintro e w' ⟨v, rfl, hR⟩
  have HR := Lib.hid hR
  clear hR
  go_wp2
  go_ret
  exact ⟨v, rfl, HR.out⟩
/-- Append, of a name that is not there -/
theorem append_dx_miss {base D : Nat} {w : World} {S S1 : St} (h : DX base w D S) (s : ByteArray) (hs : s.size ≤ maxLen) (ok : nameOk s = true) (hf : fileOf S1.nm s.data.toList = noFile) (pq : Option Addr) (m cq : Nat)
    (R' : Value → World → Prop) (H : Handed base w D S1 (fun v w' => Below base w w' ∧ v = .int .i64 11 ∧ DX base w' D S1) R') (hdead : S1.dead = false) :
    Calls Try.prog 23 #[.pointer (some ⟨D, 0, none⟩), .string s, .slice pq m cq] w fun e w' => ∃ v, e = .returned v ∧ R' v w' := by
  have k0 : Keeps [] w ((w.alloc (.cells #[.pointer (some ⟨D, 0, none⟩)] 23)).alloc (.cells #[.slice pq m cq] 29)) := ((Keeps.refl [] w).alloc _).alloc _
  have b1 := (Boxed.new w 23 (.pointer (some ⟨D, 0, none⟩))).alloc (.cells #[.slice pq m cq] 29)
  have hDl := h.base_le
  have hon := on_dx_miss (h.keep k0) _ _ (H.keep k0) hdead s hs ok 48 #[.pointer (some ⟨w.heap.size + 1, 0, none⟩), .pointer (some ⟨w.heap.size, 0, none⟩)] hf (fun W hW kW =>
    ⟨((k0.mono (by simp)).trans kW).below hDl.1 (by simpa using hDl.2.1), rfl, hW⟩)
  have HF := Lib.hid hon
  have c1 := b1.cell
  clear hon H h b1 k0
  go_enter Try.func23, Try.ntmps23
  go_wp2_with fail
  refine HF.out.mono ?_
  rintro e w' ⟨v, rfl, hR⟩
  have HR := Lib.hid hR
  clear hR
  go_wp2
  go_ret
  exact ⟨v, rfl, HR.out⟩
theorem append_bad {D : Nat} {w : World} (s : ByteArray) (hs : s.size ≤ maxLen) (ok : nameOk s = false) (pq : Option Addr) (m cq : Nat) :
    Calls Try.prog 23 #[.pointer (some ⟨D, 0, none⟩), .string s, .slice pq m cq] w fun e w' => e = .returned (.int .i64 10) ∧ Keeps [] w w' := by
  have k0 : Keeps [] w ((w.alloc (.cells #[.pointer (some ⟨D, 0, none⟩)] 23)).alloc (.cells #[.slice pq m cq] 29)) := ((Keeps.refl [] w).alloc _).alloc _
  have b1 := (Boxed.new w 23 (.pointer (some ⟨D, 0, none⟩))).alloc (.cells #[.slice pq m cq] 29)
  have HF := Lib.hid (on_bad (D := D) (w := (w.alloc (.cells #[.pointer (some ⟨D, 0, none⟩)] 23)).alloc (.cells #[.slice pq m cq] 29)) s hs ok 48 #[.pointer (some ⟨w.heap.size + 1, 0, none⟩), .pointer (some ⟨w.heap.size, 0, none⟩)])
  have HK := Lib.hid k0
  have c1 := b1.cell
  clear b1 k0
  go_enter Try.func23, Try.ntmps23
  go_wp2_with fail
  refine HF.out.mono ?_
  rintro e w' ⟨rfl, hR⟩
  have HR := Lib.hid hR
  clear hR
  go_wp2
  go_ret
  exact ⟨rfl, HK.out.trans HR.out⟩

/-- what Sync answers -/
def Synced (base : Nat) (w : World) (D : Nat) (S1 : St) (f : Nat) (v : Value) (w' : World) : Prop :=
  Below base w w' ∧ v = .int .i64 0 ∧ DX base w' D (S1.file f (S1.con f).1 (S1.con f).1.length)
theorem sync1_dx {base D : Nat} {w : World} {S : St} (h : DX base w D S) (f : Nat) (hf : f ∈ S.fs) :
    Calls Try.prog 49 #[fptr f] w fun e w' => ∃ v, e = .returned v ∧ Synced base w D S f v w' := by
  obtain ⟨v, hv1, hv2, hv3⟩ := h.cells hf
  obtain ⟨pv, cap, rfl⟩ := ownsRow_slice hv2
  refine (sync1 hv1).mono ?_
  rintro e w' ⟨rfl, rfl⟩
  have k : Keeps [f] w (w.setCell ⟨f, 1, none⟩ (.int .i64 ((S.con f).1.length : Nat))) := (Keeps.refl _ _).setCell _ _ fun _ => by simp
  exact ⟨_, rfl, k.below h.base_le.1 (by simpa using hv3), rfl, h.file hf _ _ _ _ ⟨_, hv1⟩ (k.mono (by simp)) (cells_set hv1 1 _) (ownsRow_set2' hv2 f 1 _ fun e => own_ne hv2 hv1 (by decide) e) (.inl rfl) (Nat.le_refl _) (h.bl f hf).2⟩
theorem sync_dx {base D : Nat} {w : World} {S S1 : St} (h : DX base w D S) (s : ByteArray) (hs : s.size ≤ maxLen) (ok : nameOk s = true) (f : Nat) (hf : fileOf S1.nm s.data.toList = litF f) (hfs : f ∈ S1.fs)
    (R' : Value → World → Prop) (H : Handed base w D S1 (Synced base w D S1 f) R') (hdead : S1.dead = false) :
    Calls Try.prog 24 #[.pointer (some ⟨D, 0, none⟩), .string s] w fun e w' => ∃ v, e = .returned v ∧ R' v w' := by
  have hDl := h.base_le
  have HF := Lib.hid (on_dx h _ _ H hdead s hs ok 49 #[] callFunc49 f hf (fun W hW kW => by
    refine (sync1_dx hW f hfs).mono ?_
    rintro e w' ⟨v, he, hb, hr⟩
    exact ⟨v, he, (kW.below hDl.1 (by simpa using hDl.2.1)).trans hb, hr⟩))
  clear H h
  go_enter Try.func24, Try.ntmps24
  go_wp2_with fail
  refine HF.out.mono ?_
  rintro e w' ⟨v, rfl, hR⟩
  have HR := Lib.hid hR
  clear hR
  go_wp2
  go_ret
  exact ⟨v, rfl, HR.out⟩
theorem sync_bad {D : Nat} {w : World} (s : ByteArray) (hs : s.size ≤ maxLen) (ok : nameOk s = false) :
    Calls Try.prog 24 #[.pointer (some ⟨D, 0, none⟩), .string s] w fun e w' => e = .returned (.int .i64 10) ∧ Keeps [] w w' := by
  have HF := Lib.hid (on_bad (D := D) (w := w) s hs ok 49 #[])
  go_enter Try.func24, Try.ntmps24
  go_wp2_with fail
  refine HF.out.mono ?_
  rintro e w' ⟨rfl, hR⟩
  have HR := Lib.hid hR
  clear hR
  go_wp2
  go_ret
  exact ⟨rfl, HR.out⟩
end Go.Proofs.Ytebkgkaihjoamaa
