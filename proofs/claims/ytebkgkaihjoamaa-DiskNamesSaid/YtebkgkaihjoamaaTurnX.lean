/- Remove and Rename, in the words of the disk's state. -/
import Derived.Test.YtebkgkaihjoamaaReadX
namespace Go.Proofs.Ytebkgkaihjoamaa
open Go.RowKit Go.Proofs

theorem callFunc50 (A : Array Value) (W : World) : (callFunc 50 A).run Try.prog W = .ok (.enter 50 A) W := by kernel_rfl
theorem callFunc51 (A : Array Value) (W : World) : (callFunc 51 A).run Try.prog W = .ok (.enter 51 A) W := by kernel_rfl
/-- what Remove and Rename answer -/
def TurnedX (base : Nat) (w : World) (D : Nat) (S2 : St) (v : Value) (w' : World) : Prop := Below base w w' ∧ v = .int .i64 0 ∧ DX base w' D S2
theorem turn_below {base D : Nat} {w w' : World} {S : St} (h : DX base w D S) {N : Nat} {vt : Value} {tn : Nat} {tv : List Value} (hN : base ≤ N) (hr : w.ownsRow base 66 4 vt tn tv) (k : Keeps (D :: N :: vt.ownBlock.toList) w w') : Below base w w' :=
  k.below h.base_le'.1 fun x hx => by
    simp only [List.mem_cons, Option.mem_toList] at hx
    rcases hx with rfl | rfl | hx
    · exact h.base_le'.2
    · exact hN
    · exact (hr.lt x hx).1
theorem remove1_dx {base D : Nat} {w : World} {S : St} (h : DX base w D S) (hsl : Maps.size S.ls + S.ts.length + 1 ≤ S.c) (s : ByteArray) (hs : s.size ≤ maxLen) {B1 B2 : Nat} (hb1 : Boxed w B1 23 (.pointer (some ⟨D, 0, none⟩))) (hb2 : Boxed w B2 9 (.string s)) (f : Nat) :
    Calls Try.prog 50 #[fptr f, .pointer (some ⟨B2, 0, none⟩), .pointer (some ⟨B1, 0, none⟩)] w fun e w' => ∃ v, e = .returned v ∧ TurnedX base w D (S.turned (.drop s)) v w' := by
  obtain ⟨vf, N, L, vt, nn, nl, vb, h1⟩ := h.at_
  have hsn := h.sn
  have hsc := h.sc
  refine (remove1 h1.d h1.n.tight (by omega) s hs hb1 hb2 h1.rt h.base_le'.1 (by omega) f).mono ?_
  rintro e w' ⟨rfl, vt', d, n, r, k⟩
  refine ⟨_, rfl, turn_below h h1.bN h1.rt k, rfl, h.turned (.drop s) hs (fun _ _ e => by cases e) (Nat.le_trans (size_del_le _ _) hsn) hsl fun vf2 N2 L2 vt2 nn2 nl2 vb2 h2 => ?_⟩
  have hd := h1.d
  have hd2 := h2.d
  unfold DiskIs at hd hd2
  rw [hd] at hd2
  simp at hd2
  obtain ⟨rfl, rfl, rfl, rfl⟩ := hd2
  exact ⟨_, _, d, n, r, k⟩
set_option maxRecDepth 100000 in
theorem remove_dx {base D : Nat} {w : World} {S S1 : St} (h : DX base w D S) (s : ByteArray) (hs : s.size ≤ maxLen) (ok : nameOk s = true) (f : Nat) (hf : fileOf S1.nm s.data.toList = litF f) (hsl : Maps.size S1.ls + S1.ts.length + 1 ≤ S1.c)
    (R' : Value → World → Prop) (H : Handed base w D S1 (TurnedX base w D (S1.turned (.drop s))) R') (hdead : S1.dead = false) :
    Calls Try.prog 25 #[.pointer (some ⟨D, 0, none⟩), .string s] w fun e w' => ∃ v, e = .returned v ∧ R' v w' := by
  have k0 : Keeps [] w ((w.alloc (.cells #[.pointer (some ⟨D, 0, none⟩)] 23)).alloc (.cells #[.string s] 9)) := ((Keeps.refl [] w).alloc _).alloc _
  have b1 := (Boxed.new w 23 (.pointer (some ⟨D, 0, none⟩))).alloc (.cells #[.string s] 9)
  have b2 := Boxed.new (w.alloc (.cells #[.pointer (some ⟨D, 0, none⟩)] 23)) 9 (.string s)
  rw [World.size_alloc] at b2
  have hDl := h.base_le
  have hon := on_dx (h.keep k0) _ _ (H.keep k0) hdead s hs ok 50 #[.pointer (some ⟨w.heap.size + 1, 0, none⟩), .pointer (some ⟨w.heap.size, 0, none⟩)] callFunc50 f hf (fun W hW kW => by
    have kk : Keeps [D] w W := (k0.mono (by simp)).trans kW
    refine (remove1_dx hW hsl s hs (kW.boxed b1 (by simp; omega)) (kW.boxed b2 (by simp; omega)) f).mono ?_
    rintro e w' ⟨v, he, hb, hr⟩
    exact ⟨v, he, (kk.below hDl.1 (by simpa using hDl.2.1)).trans hb, hr⟩)
  have HF := Lib.hid hon
  have c1 := b1.cell
  have c2 := b2.cell
  clear hon H h b1 b2 k0
  go_enter Try.func25, Try.ntmps25
  go_wp2_with fail
  refine HF.out.mono ?_
  rintro e w' ⟨v, rfl, hR⟩
  have HR := Lib.hid hR
  clear hR
  go_wp2
  go_ret
  exact ⟨v, rfl, HR.out⟩
theorem remove_bad {D : Nat} {w : World} (s : ByteArray) (hs : s.size ≤ maxLen) (ok : nameOk s = false) :
    Calls Try.prog 25 #[.pointer (some ⟨D, 0, none⟩), .string s] w fun e w' => e = .returned (.int .i64 10) ∧ Keeps [] w w' := by
  have k0 : Keeps [] w ((w.alloc (.cells #[.pointer (some ⟨D, 0, none⟩)] 23)).alloc (.cells #[.string s] 9)) := ((Keeps.refl [] w).alloc _).alloc _
  have b1 := (Boxed.new w 23 (.pointer (some ⟨D, 0, none⟩))).alloc (.cells #[.string s] 9)
  have b2 := Boxed.new (w.alloc (.cells #[.pointer (some ⟨D, 0, none⟩)] 23)) 9 (.string s)
  rw [World.size_alloc] at b2
  have HF := Lib.hid (on_bad (D := D) (w := (w.alloc (.cells #[.pointer (some ⟨D, 0, none⟩)] 23)).alloc (.cells #[.string s] 9)) s hs ok 50 #[.pointer (some ⟨w.heap.size + 1, 0, none⟩), .pointer (some ⟨w.heap.size, 0, none⟩)])
  have HK := Lib.hid k0
  have c1 := b1.cell
  have c2 := b2.cell
  clear b1 b2 k0
  go_enter Try.func25, Try.ntmps25
  go_wp2_with fail
  refine HF.out.mono ?_
  rintro e w' ⟨rfl, hR⟩
  have HR := Lib.hid hR
  clear hR
  go_wp2
  go_ret
  exact ⟨rfl, HK.out.trans HR.out⟩

theorem rename1_dx {base D : Nat} {w : World} {S : St} (h : DX base w D S) (hsl : Maps.size S.ls + S.ts.length + 1 ≤ S.c) (a b : ByteArray) (ha : a.size ≤ maxLen) (hb : b.size ≤ maxLen) (hab : a ≠ b) (hsz : Maps.size ((Turn.move a b).lead S.nm) ≤ S.c) {B1 B2 B3 : Nat} (hb1 : Boxed w B1 23 (.pointer (some ⟨D, 0, none⟩))) (hb2 : Boxed w B2 9 (.string a)) (hb3 : Boxed w B3 9 (.string b)) (f : Nat) :
    Calls Try.prog 51 #[fptr f, .pointer (some ⟨B2, 0, none⟩), .pointer (some ⟨B3, 0, none⟩), .pointer (some ⟨B1, 0, none⟩)] w fun e w' => ∃ v, e = .returned v ∧ TurnedX base w D (S.turned (.move a b)) v w' := by
  obtain ⟨vf, N, L, vt, nn, nl, vb, h1⟩ := h.at_
  have hsn := h.sn
  have hsc := h.sc
  refine (rename1 h1.d h1.n.tight (by omega) a b ha hb hab hb1 hb2 hb3 h1.rt h.base_le'.1 (by omega) f).mono ?_
  rintro e w' ⟨rfl, vt', d, n, r, k⟩
  refine ⟨_, rfl, turn_below h h1.bN h1.rt k, rfl, h.turned (.move a b) ⟨ha, hb⟩ (fun _ _ e => by cases e) hsz hsl fun vf2 N2 L2 vt2 nn2 nl2 vb2 h2 => ?_⟩
  have hd := h1.d
  have hd2 := h2.d
  unfold DiskIs at hd hd2
  rw [hd] at hd2
  simp at hd2
  obtain ⟨rfl, rfl, rfl, rfl⟩ := hd2
  exact ⟨_, _, d, n, r, k⟩
set_option maxRecDepth 100000 in
set_option maxHeartbeats 1000000 in
theorem rename_dx {base D : Nat} {w : World} {S S1 : St} (h : DX base w D S) (a b : ByteArray) (ha : a.size ≤ maxLen) (hb : b.size ≤ maxLen) (oka : nameOk a = true) (okb : nameOk b = true) (hab : a ≠ b) (f : Nat) (hf : fileOf S1.nm a.data.toList = litF f) (hsl : Maps.size S1.ls + S1.ts.length + 1 ≤ S1.c) (hsz : Maps.size ((Turn.move a b).lead S1.nm) ≤ S1.c)
    (R' : Value → World → Prop) (H : Handed base w D S1 (TurnedX base w D (S1.turned (.move a b))) R') (hdead : S1.dead = false) :
    Calls Try.prog 26 #[.pointer (some ⟨D, 0, none⟩), .string a, .string b] w fun e w' => ∃ v, e = .returned v ∧ R' v w' := by
  have k0 : Keeps [] w (((w.alloc (.cells #[.pointer (some ⟨D, 0, none⟩)] 23)).alloc (.cells #[.string a] 9)).alloc (.cells #[.string b] 9)) := (((Keeps.refl [] w).alloc _).alloc _).alloc _
  have HA := Lib.hid (name_any b hb (((w.alloc (.cells #[.pointer (some ⟨D, 0, none⟩)] 23)).alloc (.cells #[.string a] 9)).alloc (.cells #[.string b] 9)))
  rw [okb] at HA
  have b1 := ((Boxed.new w 23 (.pointer (some ⟨D, 0, none⟩))).alloc (.cells #[.string a] 9)).alloc (.cells #[.string b] 9)
  have b2 := (Boxed.new (w.alloc (.cells #[.pointer (some ⟨D, 0, none⟩)] 23)) 9 (.string a)).alloc (.cells #[.string b] 9)
  have b3 := Boxed.new ((w.alloc (.cells #[.pointer (some ⟨D, 0, none⟩)] 23)).alloc (.cells #[.string a] 9)) 9 (.string b)
  simp only [World.size_alloc] at b2 b3
  have hDl := h.base_le
  have hon := on_dx (h.keep k0) _ _ (H.keep k0) hdead a ha oka 51 #[.pointer (some ⟨w.heap.size + 1, 0, none⟩), .pointer (some ⟨w.heap.size + 1 + 1, 0, none⟩), .pointer (some ⟨w.heap.size, 0, none⟩)] callFunc51 f hf (fun W hW kW => by
    have kk : Keeps [D] w W := (k0.mono (by simp)).trans kW
    refine (rename1_dx hW hsl a b ha hb hab hsz (kW.boxed b1 (by simp; omega)) (kW.boxed b2 (by simp; omega)) (kW.boxed b3 (by simp; omega)) f).mono ?_
    rintro e w' ⟨v, he, hb, hr⟩
    exact ⟨v, he, (kk.below hDl.1 (by simpa using hDl.2.1)).trans hb, hr⟩)
  have HF := Lib.hid hon
  have c1 := b1.cell
  have c2 := b2.cell
  have c3 := b3.cell
  clear hon H h b1 b2 b3 k0
  go_enter Try.func26, Try.ntmps26
  go_wp2_with (first | (go_at_call 32; (with_reducible refine HA.out.mono ?_); rintro e w' ⟨rfl, rfl⟩))
  refine HF.out.mono ?_
  rintro e w' ⟨v, rfl, hR⟩
  have HR := Lib.hid hR
  clear hR
  go_wp2
  go_ret
  exact ⟨v, rfl, HR.out⟩
set_option maxRecDepth 100000 in
set_option maxHeartbeats 1000000 in
/-- Rename of a name to itself -/
theorem rename_same {base D : Nat} {w : World} {S S1 : St} (h : DX base w D S) (a : ByteArray) (ha : a.size ≤ maxLen) (oka : nameOk a = true) (f : Nat) (hf : fileOf S1.nm a.data.toList = litF f)
    (R' : Value → World → Prop) (H : Handed base w D S1 (TurnedX base w D S1) R') (hdead : S1.dead = false) :
    Calls Try.prog 26 #[.pointer (some ⟨D, 0, none⟩), .string a, .string a] w fun e w' => ∃ v, e = .returned v ∧ R' v w' := by
  have k0 : Keeps [] w (((w.alloc (.cells #[.pointer (some ⟨D, 0, none⟩)] 23)).alloc (.cells #[.string a] 9)).alloc (.cells #[.string a] 9)) := (((Keeps.refl [] w).alloc _).alloc _).alloc _
  have HA := Lib.hid (name_any a ha (((w.alloc (.cells #[.pointer (some ⟨D, 0, none⟩)] 23)).alloc (.cells #[.string a] 9)).alloc (.cells #[.string a] 9)))
  rw [oka] at HA
  have b1 := ((Boxed.new w 23 (.pointer (some ⟨D, 0, none⟩))).alloc (.cells #[.string a] 9)).alloc (.cells #[.string a] 9)
  have b2 := (Boxed.new (w.alloc (.cells #[.pointer (some ⟨D, 0, none⟩)] 23)) 9 (.string a)).alloc (.cells #[.string a] 9)
  have b3 := Boxed.new ((w.alloc (.cells #[.pointer (some ⟨D, 0, none⟩)] 23)).alloc (.cells #[.string a] 9)) 9 (.string a)
  simp only [World.size_alloc] at b2 b3
  have hDl := h.base_le
  have hon := on_dx (h.keep k0) _ _ (H.keep k0) hdead a ha oka 51 #[.pointer (some ⟨w.heap.size + 1, 0, none⟩), .pointer (some ⟨w.heap.size + 1 + 1, 0, none⟩), .pointer (some ⟨w.heap.size, 0, none⟩)] callFunc51 f hf (fun W hW kW => by
    have kk : Keeps [D] w W := (k0.mono (by simp)).trans kW
    refine (rename0 a (kW.boxed b2 (by simp; omega)) (kW.boxed b3 (by simp; omega)) f).mono ?_
    rintro e w' ⟨rfl, rfl⟩
    exact ⟨_, rfl, kk.below hDl.1 (by simpa using hDl.2.1), rfl, hW⟩)
  have HF := Lib.hid hon
  have c1 := b1.cell
  have c2 := b2.cell
  have c3 := b3.cell
  clear hon H h b1 b2 b3 k0
  go_enter Try.func26, Try.ntmps26
  go_wp2_with (first | (go_at_call 32; (with_reducible refine HA.out.mono ?_); rintro e w' ⟨rfl, rfl⟩))
  refine HF.out.mono ?_
  rintro e w' ⟨v, rfl, hR⟩
  have HR := Lib.hid hR
  clear hR
  go_wp2
  go_ret
  exact ⟨v, rfl, HR.out⟩
end Go.Proofs.Ytebkgkaihjoamaa
