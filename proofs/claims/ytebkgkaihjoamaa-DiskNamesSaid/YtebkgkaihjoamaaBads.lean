/- Calls that answer that a name may not be, or that there are too many. -/
import Derived.Test.YtebkgkaihjoamaaTwo
namespace Go.Proofs.Ytebkgkaihjoamaa
open Go.RowKit Go.Proofs

theorem create_bad {D : Nat} {w : World} (s : ByteArray) (hs : s.size ≤ maxLen) (ok : nameOk s = false) :
    Calls Try.prog 13 #[.pointer (some ⟨D, 0, none⟩), .string s] w fun e w' => e = .returned (.int .i64 10) ∧ Keeps [] w w' := by
  have HA := Lib.hid (name_any s hs ((w.alloc (.cells #[.pointer (some ⟨D, 0, none⟩)] 23)).alloc (.cells #[.string s] 9)))
  rw [ok] at HA
  have b2 := Boxed.new (w.alloc (.cells #[.pointer (some ⟨D, 0, none⟩)] 23)) 9 (.string s)
  simp only [World.size_alloc] at b2
  have HK : Hid (Keeps [] w ((w.alloc (.cells #[.pointer (some ⟨D, 0, none⟩)] 23)).alloc (.cells #[.string s] 9))) := ((Keeps.refl [] w).alloc _).alloc _
  have c2 := b2.cell
  clear b2
  go_enter Try.func13, Try.ntmps13
  go_wp2_with (first | (go_at_call 32; (with_reducible refine HA.out.mono ?_); rintro e w' ⟨rfl, rfl⟩))
  go_ret
  exact ⟨rfl, HK.out⟩
/-- Rename to a name that may not be -/
theorem rename_to_bad {D : Nat} {w : World} (a s : ByteArray) (hs : s.size ≤ maxLen) (ok : nameOk s = false) :
    Calls Try.prog 26 #[.pointer (some ⟨D, 0, none⟩), .string a, .string s] w fun e w' => e = .returned (.int .i64 10) ∧ Keeps [] w w' := by
  have HA := Lib.hid (name_any s hs (((w.alloc (.cells #[.pointer (some ⟨D, 0, none⟩)] 23)).alloc (.cells #[.string a] 9)).alloc (.cells #[.string s] 9)))
  rw [ok] at HA
  have b2 := Boxed.new ((w.alloc (.cells #[.pointer (some ⟨D, 0, none⟩)] 23)).alloc (.cells #[.string a] 9)) 9 (.string s)
  simp only [World.size_alloc] at b2
  have HK : Hid (Keeps [] w (((w.alloc (.cells #[.pointer (some ⟨D, 0, none⟩)] 23)).alloc (.cells #[.string a] 9)).alloc (.cells #[.string s] 9))) := (((Keeps.refl [] w).alloc _).alloc _).alloc _
  have c2 := b2.cell
  clear b2
  go_enter Try.func26, Try.ntmps26
  go_wp2_with (first | (go_at_call 32; (with_reducible refine HA.out.mono ?_); rintro e w' ⟨rfl, rfl⟩))
  go_ret
  exact ⟨rfl, HK.out⟩
/-- Rename of a name that may not be -/
theorem rename_bad {D : Nat} {w : World} (s b : ByteArray) (hs : s.size ≤ maxLen) (ok : nameOk s = false) (hb : b.size ≤ maxLen) (okb : nameOk b = true) :
    Calls Try.prog 26 #[.pointer (some ⟨D, 0, none⟩), .string s, .string b] w fun e w' => e = .returned (.int .i64 10) ∧ Keeps [] w w' := by
  have HA := Lib.hid (name_any b hb (((w.alloc (.cells #[.pointer (some ⟨D, 0, none⟩)] 23)).alloc (.cells #[.string s] 9)).alloc (.cells #[.string b] 9)))
  rw [okb] at HA
  have b1 := ((Boxed.new w 23 (.pointer (some ⟨D, 0, none⟩))).alloc (.cells #[.string s] 9)).alloc (.cells #[.string b] 9)
  have b2 := (Boxed.new (w.alloc (.cells #[.pointer (some ⟨D, 0, none⟩)] 23)) 9 (.string s)).alloc (.cells #[.string b] 9)
  have b3 := Boxed.new ((w.alloc (.cells #[.pointer (some ⟨D, 0, none⟩)] 23)).alloc (.cells #[.string s] 9)) 9 (.string b)
  simp only [World.size_alloc] at b2 b3
  have HF := Lib.hid (on_bad (D := D) (w := ((w.alloc (.cells #[.pointer (some ⟨D, 0, none⟩)] 23)).alloc (.cells #[.string s] 9)).alloc (.cells #[.string b] 9)) s hs ok 51 #[.pointer (some ⟨w.heap.size + 1, 0, none⟩), .pointer (some ⟨w.heap.size + 1 + 1, 0, none⟩), .pointer (some ⟨w.heap.size, 0, none⟩)])
  have HK : Hid (Keeps [] w (((w.alloc (.cells #[.pointer (some ⟨D, 0, none⟩)] 23)).alloc (.cells #[.string s] 9)).alloc (.cells #[.string b] 9))) := (((Keeps.refl [] w).alloc _).alloc _).alloc _
  have c1 := b1.cell
  have c2 := b2.cell
  have c3 := b3.cell
  clear b1 b2 b3
  go_enter Try.func26, Try.ntmps26
  go_wp2_with (first | (go_at_call 32; (with_reducible refine HA.out.mono ?_); rintro e w' ⟨rfl, rfl⟩))
  refine HF.out.mono ?_
  rintro e w' ⟨rfl, hR⟩
  have HR := Lib.hid hR
  clear hR
  go_wp2
  go_ret
  exact ⟨rfl, HK.out.trans HR.out⟩

set_option maxRecDepth 100000 in
/-- Create's function where there are as many names as may be -/
theorem create1_many {w : World} {D B1 B2 : Nat} {s : ByteArray} {q c st fl fe : Int} {vf : Value} {N L nn : Nat} {vt : Value} {nm : DataW Unit} (hb1 : Boxed w B1 23 (.pointer (some ⟨D, 0, none⟩))) (hb2 : Boxed w B2 9 (.string s)) (hD : DiskIs w D q c st fl fe false vf N L vt)
    (hs : s.size ≤ maxLen) (hN : NamesAt w N nn nm) (hmiss : fileOf nm s.data.toList = .lit (.int .i64 (-1))) (hlen : 64 ≤ Maps.size nm) (hle : Maps.size nm ≤ 1000000) :
    Calls Try.prog 34 #[.pointer (some ⟨B1, 0, none⟩), .pointer (some ⟨B2, 0, none⟩)] w fun e w' => e = .returned (.int .i64 65) ∧ Keeps [] w w' := by
  have k1 := hb1.cell
  have k2 := hb2.cell
  have c7 : w.cell? ⟨D, 7, none⟩ = some (.map (some N)) := hD.cell 7 _ rfl
  have hl : ∀ a, (Instr.lookup 56 (.map (some N)) (.string s) false).run Try.prog (w.drewN a) = .ok (.pointer none) (w.drewN a) := fun a => NamesAt.miss (w := w.drewN a) (b := N) (n := nn) (D := nm) hN s hs hmiss
  have hln : ∀ a, (Builtin.len_ #[56] 3 #[.map (some N)]).run Try.prog (w.drewN a) = .ok (.int .i64 (Maps.size nm : Nat)) (w.drewN a) := fun a => World.ownsMap.len (w := w.drewN a) hN Try.underlying56 3
  have HK : Hid (∀ a, Keeps [] w (w.drewN a)) := fun a => (Keeps.refl [] w).drewN a
  clear hD hN hmiss hb1 hb2
  generalize Maps.size nm = sz at *
  go_enter Try.func34, Try.ntmps34
  go_wp2_with fail
  go_quiet (fail)
  go_wp2_with fail
  go_ret
  exact ⟨rfl, HK.out _⟩
set_option maxRecDepth 100000 in
/-- Create, where there are as many names as may be -/
theorem create_many {base D : Nat} {w : World} {S : St} (h : DX base w D S) (p : S.Plain) (hc : S.c < 4000) (s : ByteArray) (hs : s.size ≤ maxLen) (ok : nameOk s = true) (hmiss : fileOf S.nm s.data.toList = noFile) (hlen : 64 ≤ Maps.size S.nm) :
    Calls Try.prog 13 #[.pointer (some ⟨D, 0, none⟩), .string s] w fun e w' => e = .returned (.int .i64 65) ∧ Below base w w' ∧ DX base w' D S.count := by
  have HA := Lib.hid (name_any s hs ((w.alloc (.cells #[.pointer (some ⟨D, 0, none⟩)] 23)).alloc (.cells #[.string s] 9)))
  rw [ok] at HA
  have k0 : Keeps [] w ((w.alloc (.cells #[.pointer (some ⟨D, 0, none⟩)] 23)).alloc (.cells #[.string s] 9)) := ((Keeps.refl [] w).alloc _).alloc _
  have b1 := (Boxed.new w 23 (.pointer (some ⟨D, 0, none⟩))).alloc (.cells #[.string s] 9)
  have b2 := Boxed.new (w.alloc (.cells #[.pointer (some ⟨D, 0, none⟩)] 23)) 9 (.string s)
  simp only [World.size_alloc] at b2
  have hDl := h.base_le
  have HC := Lib.hid (call_dx (h.keep k0) p hc 34 #[.pointer (some ⟨w.heap.size, 0, none⟩), .pointer (some ⟨w.heap.size + 1, 0, none⟩)] callFunc34 (fun v w' => v = .int .i64 65 ∧ Below base w w' ∧ DX base w' D S.count) fun W hW kW => by
    obtain ⟨vf, N, L, vt, nn, nl, vb, h1⟩ := hW.at_
    have hd := h1.d
    rw [show S.count.dead = false from p.dead] at hd
    refine (create1_many (kW.boxed b1 (by simp; omega)) (kW.boxed b2 (by simp; omega)) hd hs h1.n hmiss hlen (by have := h.sn; have := h.sc; show Maps.size S.nm ≤ _; omega)).mono ?_
    rintro e w' ⟨rfl, k⟩
    exact ⟨_, rfl, rfl, (((k0.mono (by simp)).trans kW).below hDl.1 (by simpa using hDl.2.1)).trans (k.below (Nat.le_trans hDl.1 (by have := k0.size; have := kW.size; omega)) (by simp)), hW.keep k⟩)
  have c1 := b1.cell
  have c2 := b2.cell
  clear b1 b2 k0 h
  go_enter Try.func13, Try.ntmps13
  go_wp2_with (first | (go_at_call 32; (with_reducible refine HA.out.mono ?_); rintro e w' ⟨rfl, rfl⟩))
  refine HC.out.mono ?_
  rintro e w' ⟨v, rfl, rfl, hp⟩
  have HP := Lib.hid hp
  clear hp
  go_wp2
  go_ret
  exact ⟨rfl, HP.out⟩

/-- the document's word on names says what name says -/
theorem ok_any (s : ByteArray) (hs : s.size ≤ 100) (w : World) : Calls Try.prog 20 #[.string s] w fun e w' => e = .returned (.bool (nameOk s)) ∧ w = w' := by
  have HB := Lib.hid (name_bad s)
  have HS := Lib.hid (name_step s)
  have HE : Hid ((s.data.toList.take s.size).all charOk = true → nameOk s = (decide (1 ≤ s.size) && decide (s.size ≤ 20))) := fun h => by
    unfold nameOk
    rw [List.take_of_length_le (by simp)] at h
    rw [h, Bool.and_true]
  go_enter Try.func20, Try.ntmps20
  go_wp2
  go_loop [3] (fun i => ∃ k : Nat, k ≤ s.size ∧ i = .int .i64 k ∧ (s.data.toList.take k).all charOk = true) (fun i => s.size - (intOf i).toNat)
  case atStart => exact ⟨0, Nat.zero_le _, rfl, rfl⟩
  case round =>
    obtain ⟨k, hk, rfl, hall⟩ := hrel
    have HA := Lib.hid hall
    clear hall
    by_cases hlt : k < s.size
    · go_wp2
      all_goals first
        | (go_round
           case rel => exact ⟨k + 1, by omega, by go_num, HS.out k hlt (by unfold charOk; rw [decide_eq_true_iff]; (first | omega | (simp at *; omega))) HA.out⟩
           case measure => simp [intOf]; omega)
        | (go_ret
           exact ⟨by rw [HB.out k hlt (by unfold charOk; rw [decide_eq_false_iff_not]; (first | omega | (simp at *; omega)))]; rfl, rfl⟩)
    · obtain rfl : k = s.size := by omega
      have hE := Lib.hid (HE.out HA.out)
      clear HE
      by_cases h1 : 1 ≤ s.size
      · go_wp2
        go_ret
        exact ⟨by rw [hE.out]; show Ending.returned (.bool (decide ((s.size : Int) ≤ 20))) = _; rw [decide_eq_true h1, Bool.true_and]; exact congrArg (fun b => Ending.returned (.bool b)) (decide_eq_decide.2 (by omega)), rfl⟩
      · go_wp2
        go_ret
        exact ⟨by rw [hE.out]; show Ending.returned (.bool false) = _; simp [h1], rfl⟩
end Go.Proofs.Ytebkgkaihjoamaa
