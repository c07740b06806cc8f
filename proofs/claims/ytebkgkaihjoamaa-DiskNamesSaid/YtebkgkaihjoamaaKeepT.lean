/- What a disk's calls keep besides: blocks of other kinds than a disk's. -/
import Derived.Test.YtebkgkaihjoamaaTwo
namespace Go.Proofs.Ytebkgkaihjoamaa
open Go.RowKit Go.Proofs

/-- cells of other kinds than a disk's are as they were -/
def KeepT (w w' : World) : Prop := ∀ (U : Nat) cs t fr, w.heap[U]? = some (.cells cs t fr) → t ∉ [5, 60, 62, 64, 66] → w'.heap[U]? = some (.cells cs t fr)
theorem KeepT.refl (w : World) : KeepT w w := fun _ _ _ _ h _ => h
theorem KeepT.trans {a b c : World} (h : KeepT a b) (k : KeepT b c) : KeepT a c := fun U cs t fr e ht => k U cs t fr (h U cs t fr e ht) ht
/-- a block that may be a disk's -/
def Ours (w : World) (x : Nat) : Prop := ∀ cs t fr, w.heap[x]? = some (.cells cs t fr) → t ∈ [5, 60, 62, 64, 66]
theorem Keeps.keepT {X : List Nat} {w w' : World} (k : Keeps X w w') (h : ∀ x ∈ X, Ours w x) : KeepT w w' := fun U cs t fr e ht => by
  rw [k.block U (Array.getElem?_eq_some_iff.1 e).1 fun hx => ht (h U hx cs t fr e)]
  exact e
theorem ours_cells {w : World} {x : Nat} {cs : Array Value} {t : TypeId} {fr : Nat × Nat} (h : w.heap[x]? = some (.cells cs t fr)) (ht : t ∈ [5, 60, 62, 64, 66]) : Ours w x := fun cs' t' fr' e => by
  rw [h] at e
  cases e
  exact ht
theorem DiskIs.ours {w : World} {D : Nat} {q c st fl fe : Int} {dead : Bool} {vf : Value} {N L : Nat} {vt : Value} (h : DiskIs w D q c st fl fe dead vf N L vt) : Ours w D := ours_cells h (by simp)
theorem DX.ours {base D : Nat} {w : World} {S : St} (h : DX base w D S) : Ours w D := by
  obtain ⟨vf, N, L, vt, nn, nl, vb, h1⟩ := h.at_
  exact h1.d.ours
theorem ours_own {w : World} {base size n x : Nat} {e : TypeId} {v : Value} {xs : List Value} (h : w.ownsRow base e size v n xs) (he : e ∈ [5, 60, 62, 64, 66]) (hv : v.ownBlock = some x) : Ours w x := by
  obtain ⟨cs, hc⟩ := own_cells h hv
  exact ours_cells hc he
theorem ours_map {w : World} {N n : Nat} {D : DataW Unit} (h : NamesAt w N n D) : Ours w N := fun cs t fr e => by
  obtain ⟨es, cl, hb, _⟩ := h
  rw [hb] at e
  cases e

theorem append1_dxK {base D : Nat} {w : World} {S : St} (h : DX base w D S) (hdead : S.dead = false) (f : Nat) (hf : f ∈ S.fs) (Bd Bb : Nat) (src : Value) (l : List UInt8) (hsrc : Reads w src (cellsOf l))
    (hb1 : Boxed w Bd 23 (.pointer (some ⟨D, 0, none⟩))) (hb2 : Boxed w Bb 29 src) (h1 : (S.con f).1.length + l.length ≤ 200000) (hq : 0 ≤ S.q ∧ S.q ≤ 10000000) :
    Calls Try.prog 48 #[fptr f, .pointer (some ⟨Bb, 0, none⟩), .pointer (some ⟨Bd, 0, none⟩)] w fun e w' => ∃ v, e = .returned v ∧ (Appended base w D S f l v w' ∧ KeepT w w') := by
  obtain ⟨v, hv1, hv2, hv3⟩ := h.cells hf
  obtain ⟨es, he, hl⟩ := h.vn
  obtain ⟨vf, N, L, vt, nn, nl, vb, ha⟩ := h.at_
  have hd := ha.d
  have hn := ha.n
  rw [hdead] at hd
  rw [he] at hn
  have hu := h.used_le
  have hue : S.used = sumLeft es (fun _ => true) (lenD fun f => (S.con f).1.length) := by unfold St.used sumD; rw [he]
  rw [hue] at hu
  have hlen : (cellsOf l).length = l.length := by simp [cellsOf]
  refine (append1 hd hn (fun f => (S.con f).1.length) (fun p hp => by
    obtain ⟨g, hg, e⟩ := hl p hp
    obtain ⟨v', a1, a2, _⟩ := h.cells hg
    obtain ⟨pv, cap, rfl⟩ := ownsRow_slice a2
    exact ⟨g, e, (Array.getElem?_eq_some_iff.1 a1).1, pv, cap, by simp [World.cell?, a1]⟩) hu v (S.con f).2 (S.con f).1.length (cellsOf (S.con f).1) (cellsOf l) src hv1 hv2 hsrc (cellsOf_one l) hb1 hb2 h.base_le.1 (by omega) hq).mono ?_
  rintro e w' (⟨a1, rfl, a3⟩ | ⟨a1, rfl, v', b1, b2, b3, b4⟩)
  · refine ⟨_, rfl, ⟨a3.below h.base_le.1 (by simp), .inl ⟨?_, rfl, h.keep a3⟩⟩, a3.keepT (by simp)⟩
    rw [hue]; omega
  · refine ⟨_, rfl, ⟨b3.below h.base_le.1 (fun x hx => ?_), .inr ⟨?_, rfl, h.file hf v v' _ _ ⟨_, hv1⟩ b3 b1 ?_ b4 ?_ ?_⟩⟩, b3.keepT fun x hx => (List.mem_cons.1 hx).elim (fun e => by subst e; exact ours_cells hv1 (by simp)) fun e => ours_own hv2 (by simp) (by simpa using e)⟩
    · rcases List.mem_cons.1 hx with rfl | hx
      · exact hv3
      · exact (hv2.lt x (by simpa using hx)).1
    · rw [hue]; omega
    · rw [List.length_append]
      have : cellsOf ((S.con f).1 ++ l) = cellsOf (S.con f).1 ++ cellsOf l := by simp [cellsOf]
      rw [this]
      rw [hlen] at b2
      exact b2
    · have := (h.bl f hf).1
      rw [List.length_append]; omega
    · rw [List.length_append]; omega
set_option maxRecDepth 100000 in
theorem append_dxK {base D : Nat} {w : World} {S S1 : St} (h : DX base w D S) (s : ByteArray) (hs : s.size ≤ maxLen) (ok : nameOk s = true) (f : Nat) (hf : fileOf S1.nm s.data.toList = litF f) (hfs : f ∈ S1.fs) (src : Value) (l : List UInt8) (hsrc : Reads w src (cellsOf l)) (hrb : src.rowBlock ≠ some D)
    (R' : Value → World → Prop) (H : Handed base w D S1 (fun v w' => Appended base w D S1 f l v w' ∧ KeepT w w') R') (hdead : S1.dead = false) (h1 : (S1.con f).1.length + l.length ≤ 200000) (hq : 0 ≤ S1.q ∧ S1.q ≤ 10000000) :
    Calls Try.prog 23 #[.pointer (some ⟨D, 0, none⟩), .string s, src] w fun e w' => ∃ v, e = .returned v ∧ R' v w' := by
  have k0 : Keeps [] w ((w.alloc (.cells #[.pointer (some ⟨D, 0, none⟩)] 23)).alloc (.cells #[src] 29)) := ((Keeps.refl [] w).alloc _).alloc _
  have b1 := (Boxed.new w 23 (.pointer (some ⟨D, 0, none⟩))).alloc (.cells #[src] 29)
  have b2 := Boxed.new (w.alloc (.cells #[.pointer (some ⟨D, 0, none⟩)] 23)) 29 src
  rw [World.size_alloc] at b2
  have hDl := h.base_le
  have HO := Lib.hid h.ours
  have hon := on_dx (h.keep k0) _ _ (H.keep k0) hdead s hs ok 48 #[.pointer (some ⟨w.heap.size + 1, 0, none⟩), .pointer (some ⟨w.heap.size, 0, none⟩)] callFunc48 f hf (fun W hW kW => by
    have kk : Keeps [D] w W := (k0.mono (by simp)).trans kW
    refine (append1_dxK hW hdead f hfs w.heap.size (w.heap.size + 1) src l (kk.reads hsrc (fun g hg => by simp; exact fun e => hrb (e ▸ hg))) (kW.boxed b1 (by simp; omega)) (kW.boxed b2 (by simp; omega)) h1 hq).mono ?_
    rintro e w' ⟨v, he, ⟨hb, hr⟩, hk⟩
    exact ⟨v, he, ⟨(kk.below hDl.1 (by simpa using hDl.2.1)).trans hb, hr⟩, (kk.keepT (by simpa using HO.out)).trans hk⟩)
  have HF := Lib.hid hon
  have c1 := b1.cell
  obtain ⟨pq, cq, rfl⟩ := hsrc.shape
  clear hon H h hsrc b1 b2 k0
  go_enter Try.func23, Try.ntmps23
  go_wp2_with fail
  refine HF.out.mono ?_
  rintro e w' ⟨v, rfl, hR⟩
  have HR := Lib.hid hR
  clear hR
  go_wp2
  go_ret
  exact ⟨v, rfl, HR.out⟩
theorem remove1_dxK {base D : Nat} {w : World} {S : St} (h : DX base w D S) (hsl : Maps.size S.ls + S.ts.length + 1 ≤ S.c) (s : ByteArray) (hs : s.size ≤ maxLen) {B1 B2 : Nat} (hb1 : Boxed w B1 23 (.pointer (some ⟨D, 0, none⟩))) (hb2 : Boxed w B2 9 (.string s)) (f : Nat) :
    Calls Try.prog 50 #[fptr f, .pointer (some ⟨B2, 0, none⟩), .pointer (some ⟨B1, 0, none⟩)] w fun e w' => ∃ v, e = .returned v ∧ (TurnedX base w D (S.turned (.drop s)) v w' ∧ KeepT w w') := by
  obtain ⟨vf, N, L, vt, nn, nl, vb, h1⟩ := h.at_
  have hsn := h.sn
  have hsc := h.sc
  refine (remove1 h1.d h1.n.tight (by omega) s hs hb1 hb2 h1.rt h.base_le'.1 (by omega) f).mono ?_
  rintro e w' ⟨rfl, vt', d, n, r, k⟩
  have hkt : KeepT w w' := k.keepT fun x hx => by
    simp only [List.mem_cons, Option.mem_toList] at hx
    rcases hx with rfl | rfl | hx
    · exact h1.d.ours
    · exact ours_map h1.n
    · exact ours_own h1.rt (by simp) hx
  refine ⟨_, rfl, ⟨turn_below h h1.bN h1.rt k, rfl, ?_⟩, hkt⟩
  refine h.turned (.drop s) hs (fun _ _ e => by cases e) (Nat.le_trans (size_del_le _ _) hsn) hsl fun vf2 N2 L2 vt2 nn2 nl2 vb2 h2 => ?_
  have hd := h1.d
  have hd2 := h2.d
  unfold DiskIs at hd hd2
  rw [hd] at hd2
  simp at hd2
  obtain ⟨rfl, rfl, rfl, rfl⟩ := hd2
  exact ⟨_, _, d, n, r, k⟩
set_option maxRecDepth 100000 in
theorem remove_dxK {base D : Nat} {w : World} {S S1 : St} (h : DX base w D S) (s : ByteArray) (hs : s.size ≤ maxLen) (ok : nameOk s = true) (f : Nat) (hf : fileOf S1.nm s.data.toList = litF f) (hsl : Maps.size S1.ls + S1.ts.length + 1 ≤ S1.c)
    (R' : Value → World → Prop) (H : Handed base w D S1 (fun v w' => TurnedX base w D (S1.turned (.drop s)) v w' ∧ KeepT w w') R') (hdead : S1.dead = false) :
    Calls Try.prog 25 #[.pointer (some ⟨D, 0, none⟩), .string s] w fun e w' => ∃ v, e = .returned v ∧ R' v w' := by
  have k0 : Keeps [] w ((w.alloc (.cells #[.pointer (some ⟨D, 0, none⟩)] 23)).alloc (.cells #[.string s] 9)) := ((Keeps.refl [] w).alloc _).alloc _
  have b1 := (Boxed.new w 23 (.pointer (some ⟨D, 0, none⟩))).alloc (.cells #[.string s] 9)
  have b2 := Boxed.new (w.alloc (.cells #[.pointer (some ⟨D, 0, none⟩)] 23)) 9 (.string s)
  rw [World.size_alloc] at b2
  have hDl := h.base_le
  have HO := Lib.hid h.ours
  have hon := on_dx (h.keep k0) _ _ (H.keep k0) hdead s hs ok 50 #[.pointer (some ⟨w.heap.size + 1, 0, none⟩), .pointer (some ⟨w.heap.size, 0, none⟩)] callFunc50 f hf (fun W hW kW => by
    have kk : Keeps [D] w W := (k0.mono (by simp)).trans kW
    refine (remove1_dxK hW hsl s hs (kW.boxed b1 (by simp; omega)) (kW.boxed b2 (by simp; omega)) f).mono ?_
    rintro e w' ⟨v, he, ⟨hb, hr⟩, hk⟩
    exact ⟨v, he, ⟨(kk.below hDl.1 (by simpa using hDl.2.1)).trans hb, hr⟩, (kk.keepT (by simpa using HO.out)).trans hk⟩)
  have HF := Lib.hid hon
  have c1 := b1.cell
  have c2 := b2.cell
  clear hon H h b1 b2 k0
  go_enter Try.func25, Try.ntmps25
  go_wp2_with fail
  refine HF.out.mono ?_
  rintro e w' ⟨v, rfl, hR⟩
  have HR := Lib.hid hR
  clear hR
  go_wp2
  go_ret
  exact ⟨v, rfl, HR.out⟩
set_option maxRecDepth 100000 in
theorem create_okK {base D tn nn nl N L : Nat} {w : World} {q c st fe : Int} {fs : List Nat} {nm ls : DataW Unit} {tv : List Value} {con : Nat → List Nat × Nat} {vf vt : Value} {vb : Nat → Value}
    (h : DAt base w D q c st 0 fe false fs nm ls tn tv con vf N L vt nn nl vb) (s : ByteArray) (hs : s.size ≤ maxLen) (ok : nameOk s = true) (hmiss : fileOf nm s.data.toList = .lit (.int .i64 (-1))) (hlen : Maps.size nm < 64)
    (hnn : nn ≤ 1000000) (hfn : fs.length ≤ 100000) (htn : tn ≤ 100000) (hc : 0 ≤ c ∧ c ≤ 1000000) (hst : st ≤ 0) :
    Calls Try.prog 13 #[.pointer (some ⟨D, 0, none⟩), .string s] w fun e w' => ∃ v, e = .returned v ∧ v = .int .i64 0 ∧ ∃ f vf' vt', w.heap.size ≤ f ∧ (Below base w w' ∧ KeepT w w') ∧
      DAt base w' D q (c + 1) st 0 fe false (fs ++ [f]) (nm.put (.string s.data.toList) (.lit (.int .i64 (f : Nat)))) ls (tn + 1) (tv ++ [.int .i64 0, .string s, .string ⟨#[]⟩, fptr f])
        (fun g => if g = f then ([], 0) else con g) vf' N L vt' (nn + 1) nl (fun g => if g = f then .slice none 0 0 else vb g) := by
  have HA := Lib.hid (name_any s hs ((w.alloc (.cells #[.pointer (some ⟨D, 0, none⟩)] 23)).alloc (.cells #[.string s] 9)))
  rw [ok] at HA
  have k0 : Keeps [] w ((w.alloc (.cells #[.pointer (some ⟨D, 0, none⟩)] 23)).alloc (.cells #[.string s] 9)) := ((Keeps.refl [] w).alloc _).alloc _
  have h0 := h.keep k0
  have b1 := (Boxed.new w 23 (.pointer (some ⟨D, 0, none⟩))).alloc (.cells #[.string s] 9)
  have b2 := Boxed.new (w.alloc (.cells #[.pointer (some ⟨D, 0, none⟩)] 23)) 9 (.string s)
  rw [World.size_alloc] at b2
  generalize hW0 : ((w.alloc (.cells #[.pointer (some ⟨D, 0, none⟩)] 23)).alloc (.cells #[.string s] 9)) = W0 at *
  have hs0 : w.heap.size < W0.heap.size := by have := b1.lt; exact this
  have hd2 := (h0.d.calls (c + 1)).alloc (.cells #[.pointer (some ⟨D, 0, none⟩)] 23)
  have k2 : Keeps [D] W0 ((W0.setCell ⟨D, 1, none⟩ (.int .i64 (c + 1))).alloc (.cells #[.pointer (some ⟨D, 0, none⟩)] 23)) := ((Keeps.refl [D] W0).setCell _ _ fun _ => by simp).alloc _
  have h2 := h0.turnD k2 hd2
  have b12 := k2.boxed b1 (by simpa using cells_ne b1 h0.d (by decide))
  have b22 := k2.boxed b2 (by simpa using cells_ne b2 h0.d (by decide))
  have hcall := call_plain W0 D 34 #[.pointer (some ⟨w.heap.size, 0, none⟩), .pointer (some ⟨w.heap.size + 1, 0, none⟩)] q c st fe vf N L vt h0.d hc hst callFunc34
  generalize hW2 : ((W0.setCell ⟨D, 1, none⟩ (.int .i64 (c + 1))).alloc (.cells #[.pointer (some ⟨D, 0, none⟩)] 23)) = W2 at *
  have hcr := create1 W2 D w.heap.size (w.heap.size + 1) base s q (c + 1) st 0 fe vf N L vt fs nn nm tn tv b12 b22 h2.d hs h2.rf h2.n h2.rt hmiss hlen hnn h2.bw hfn htn
  have hfin := hcall (fun v w' => v = .int .i64 0 ∧ ∃ f vf' vt', w.heap.size ≤ f ∧ (Below base w w' ∧ KeepT w w') ∧
      DAt base w' D q (c + 1) st 0 fe false (fs ++ [f]) (nm.put (.string s.data.toList) (.lit (.int .i64 (f : Nat)))) ls (tn + 1) (tv ++ [.int .i64 0, .string s, .string ⟨#[]⟩, fptr f])
        (fun g => if g = f then ([], 0) else con g) vf' N L vt' (nn + 1) nl (fun g => if g = f then .slice none 0 0 else vb g)) (hcr.mono fun e w' hp => by
    obtain ⟨rfl, vf', vt', p1, p2, p3, p4, p5, p6⟩ := hp
    have hX : ∀ j, j ≠ D → j ≠ N → vf.ownBlock ≠ some j → vt.ownBlock ≠ some j → j ∉ D :: N :: (vf.ownBlock.toList ++ vt.ownBlock.toList) := fun j a1 a2 a3 a4 hj => by
      simp only [List.mem_cons, List.mem_append, Option.mem_toList] at hj
      rcases hj with hj | hj | hj | hj
      · exact a1 hj
      · exact a2 hj
      · exact a3 hj
      · exact a4 hj
    have hnew : ∀ g ∈ fs, g ≠ W2.heap.size := fun g hg e => by have := (Array.getElem?_eq_some_iff.1 (h2.f g hg).2.1).1; omega
    refine ⟨_, rfl, rfl, W2.heap.size, vf', vt', ?_, ?_, ⟨p1, by simpa using p2, p3, p4, p6.names h2.l (hX L (map_ne h2.l h2.d) h2.ne.symm (map_own_ne h2.l h2.rf) (map_own_ne h2.l h2.rt)), h2.ne, h2.bD, h2.bN, h2.bL, Nat.le_trans h2.bw p6.size, fun g hg => ?_, ?_, ?_⟩⟩
    · have := k2.size; omega
    · have hkt : KeepT W2 w' := p6.keepT fun x hx => by
        simp only [List.mem_cons, List.mem_append, Option.mem_toList] at hx
        rcases hx with rfl | rfl | hx | hx
        · exact h2.d.ours
        · exact ours_map h2.n
        · exact ours_own h2.rf (by simp) hx
        · exact ours_own h2.rt (by simp) hx
      refine ⟨?_, (k0.keepT (by simp)).trans ((k2.keepT (by simpa using h0.d.ours)).trans hkt)⟩
      refine (k0.below h.bw (by simp)).trans ((k2.below h0.bw (by simpa using h.bD)).trans (p6.below h2.bw fun x hx => ?_))
      simp only [List.mem_cons, List.mem_append, Option.mem_toList] at hx
      rcases hx with rfl | rfl | hx | hx
      · exact h.bD
      · exact h.bN
      · exact (h2.rf.lt x hx).1
      · exact (h2.rt.lt x hx).1
    · rcases List.mem_append.1 hg with hg | hg
      · rw [if_neg (hnew g hg), if_neg (hnew g hg)]
        obtain ⟨a1, a2, a3⟩ := h2.f g hg
        refine ⟨a1, (p6.block g (Array.getElem?_eq_some_iff.1 a2).1 (hX g (cells_ne a2 h2.d (by decide)) (map_ne h2.n a2).symm (fun e => own_ne h2.rf a2 (by decide) e) (fun e => own_ne h2.rt a2 (by decide) e))).trans a2, p6.row a3 fun j hj => ?_⟩
        exact hX j (fun e => own_ne a3 h2.d (by decide) (e ▸ hj)) (fun e => map_own_ne h2.n a3 (e ▸ hj)) (own_own_ne a3 h2.rf (by decide) hj) (own_own_ne a3 h2.rt (by decide) hj)
      · obtain rfl := List.mem_singleton.1 hg
        rw [if_pos rfl, if_pos rfl]
        exact ⟨h2.bw, p5, World.ownsRow_nil _ _ _ _⟩
    · exact List.nodup_append.2 ⟨h2.nd, by simp, fun a ha b hb => by obtain rfl := List.mem_singleton.1 hb; exact hnew a ha⟩
    · intro a ha b hb hab j hj
      rcases List.mem_append.1 ha with ha' | ha'
      · rw [if_neg (hnew a ha')] at hj
        rcases List.mem_append.1 hb with hb' | hb'
        · rw [if_neg (hnew b hb')]; exact h2.ap a ha' b hb' hab j hj
        · obtain rfl := List.mem_singleton.1 hb'
          rw [if_pos rfl]; simp [Value.ownBlock]
      · obtain rfl := List.mem_singleton.1 ha'
        rw [if_pos rfl] at hj; simp [Value.ownBlock] at hj)
  have HF := Lib.hid hfin
  have hb2c := b2.cell
  have hb1c := b1.cell
  clear hcall hcr hfin h2 h0 b12 b22 k2 hd2 h hW2
  subst hW0
  go_enter Try.func13, Try.ntmps13
  go_wp2_with (first | (go_at_call 32; (with_reducible refine HA.out.mono ?_); rintro e w' ⟨rfl, rfl⟩))
  refine HF.out.mono ?_
  rintro e w' ⟨v, rfl, rfl, hp⟩
  have HP := Lib.hid hp
  clear hp
  go_wp2
  go_ret
  exact ⟨_, rfl, rfl, HP.out⟩
theorem create_dxK {base D : Nat} {w : World} {S : St} (h : DX base w D S) (p : S.Plain) (hc : S.c < 4000) (s : ByteArray) (hs : s.size ≤ maxLen) (ok : nameOk s = true) (hmiss : fileOf S.nm s.data.toList = noFile) (hlen : Maps.size S.nm < 64) :
    Calls Try.prog 13 #[.pointer (some ⟨D, 0, none⟩), .string s] w fun e w' => e = .returned (.int .i64 0) ∧ (Below base w w' ∧ KeepT w w') ∧ ∃ f, f ∉ S.fs ∧ DX base w' D (S.made s f) := by
  obtain ⟨vf, N, L, vt, nn, nl, vb, h1⟩ := h.at_
  have h2 := h1.tight
  rw [p.dead, p.fl] at h2
  have hsf := h.sf
  have hsl := h.sl
  refine (create_okK h2 s hs ok hmiss hlen (by omega) (by omega) (by omega) ⟨by omega, by omega⟩ p.st).mono ?_
  rintro e w' ⟨v, rfl, rfl, f, vf', vt', hf, hB, hA⟩
  have hnew : f ∉ S.fs := fun hm => by have := (Array.getElem?_eq_some_iff.1 (h1.f f hm).2.1).1; omega
  have e1 : (S.ts ++ [Turn.make s f]).length = S.ts.length + 1 := by simp
  have e2 : (S.ts ++ [Turn.make s f]).flatMap Turn.cells = S.ts.flatMap Turn.cells ++ [.int .i64 0, .string s, .string ⟨#[]⟩, fptr f] := by simp [Turn.cells]
  have e3 : (fun g => if g = f then (([], 0) : List Nat × Nat) else ((S.con g).1.map UInt8.toNat, (S.con g).2)) = fun g => ((((S.made s f).con g).1.map UInt8.toNat, ((S.made s f).con g).2) : List Nat × Nat) := by
    funext g
    simp only [St.made]
    split <;> rfl
  rw [e3, ← e1, ← e2] at hA
  have e4 : S.dead = false := p.dead
  have e5 : S.fl = 0 := p.fl
  have hA' : ∃ vf N L vt nn nl vb, DAt base w' D (S.made s f).q (S.made s f).c (S.made s f).st (S.made s f).fl (S.made s f).fe (S.made s f).dead (S.made s f).fs (S.made s f).nm (S.made s f).ls (S.made s f).ts.length ((S.made s f).ts.flatMap Turn.cells) (fun g => (((S.made s f).con g).1.map UInt8.toNat, ((S.made s f).con g).2)) vf N L vt nn nl vb := by
    refine ⟨vf', N, L, vt', Maps.size S.nm + 1, Maps.size S.ls, fun g => if g = f then .slice none 0 0 else vb g, ?_⟩
    have h5 : (S.made s f).dead = false := e4
    have h6 : (S.made s f).fl = 0 := e5
    rw [h5, h6]
    exact hA
  refine ⟨rfl, hB, f, hnew, hA', ?_, ?_, ?_, ?_, ?_, ?_, ?_, ?_⟩
  · exact (h.vn.mono (fun g hg => List.mem_append_left _ hg)).put _ f (by simp)
  · exact h.vl.mono (fun g hg => List.mem_append_left _ hg)
  · intro t ht
    rcases List.mem_append.1 ht with ht | ht
    · exact ⟨(h.vt t ht).1, fun a g e => List.mem_append_left _ ((h.vt t ht).2 a g e)⟩
    · obtain rfl := List.mem_singleton.1 ht
      exact ⟨hs, fun a g e => by cases e; simp [St.made]⟩
  · intro g hg
    show (if g = f then (([], 0) : List UInt8 × Nat) else S.con g).2 ≤ _ ∧ (if g = f then (([], 0) : List UInt8 × Nat) else S.con g).1.length ≤ _
    split
    · simp_all [St.made]
    · rename_i hne
      rcases List.mem_append.1 hg with hg | hg
      · have := h.bl g hg
        simpa [St.made, hne] using this
      · exact absurd (List.mem_singleton.1 hg) hne
  · show (S.fs ++ [f]).length ≤ S.c + 1
    simp; omega
  · have := size_put_le S.nm (skey s) (litF f)
    have := h.sn
    show Maps.size (S.nm.put (skey s) (litF f)) ≤ S.c + 1
    omega
  · show Maps.size S.ls + (S.ts ++ [Turn.make s f]).length ≤ S.c + 1
    simp; omega
  · exact hc
theorem syncdir1_dxK {base D B : Nat} {w : World} {S : St} (h : DX base w D S) (hb : Boxed w B 23 (.pointer (some ⟨D, 0, none⟩))) :
    Calls Try.prog 35 #[.pointer (some ⟨B, 0, none⟩)] w fun e w' => ∃ v, e = .returned v ∧ (Below base w w' ∧ KeepT w w') ∧ v = .int .i64 0 ∧ DX base w' D S.lasting := by
  obtain ⟨vf, N, L, vt, nn, nl, vb, h1⟩ := h.at_
  refine (syncdir1 h1.d h1.n hb).mono ?_
  rintro e w' ⟨rfl, L', hL, hd, hl, k⟩
  have hB := k.below h.base_le'.1 (by simpa using h.base_le'.2)
  refine ⟨_, rfl, ⟨hB, k.keepT (by simpa using h.ours)⟩, rfl, ⟨vf, N, L', .slice none 0 0, nn, nn, vb, ?_⟩, h.vn, h.vn, fun t ht => absurd ht (by simp [St.lasting]), h.bl, h.sf, h.sn, by have := h.sn; simpa [St.lasting] using this, h.sc⟩
  refine ⟨hd, k.row h1.rf fun j hj hm => own_ne h1.rf h1.d (by decide) (List.mem_singleton.1 hm ▸ hj), World.ownsRow_nil _ _ _ _, k.names h1.n (by simpa using map_ne h1.n h1.d), hl, fun e => by have := World.ownsMap.lt h1.n; omega, h1.bD, h1.bN, by have := h1.bw; omega, Nat.le_trans h1.bw k.size,
    fun f hf => ⟨(h1.f f hf).1, (k.block f (Array.getElem?_eq_some_iff.1 (h1.f f hf).2.1).1 (by simpa using cells_ne (h1.f f hf).2.1 h1.d (by decide))).trans (h1.f f hf).2.1, k.row (h1.f f hf).2.2 fun j hj hm => own_ne (h1.f f hf).2.2 h1.d (by decide) (List.mem_singleton.1 hm ▸ hj)⟩, h1.nd, h1.ap⟩
set_option maxRecDepth 100000 in
theorem syncdir_dxK {base D : Nat} {w : World} {S S1 : St} (h : DX base w D S) (R' : Value → World → Prop) (H : Handed base w D S1 (fun v w' => (Below base w w' ∧ KeepT w w') ∧ v = .int .i64 0 ∧ DX base w' D S1.lasting) R') :
    Calls Try.prog 14 #[.pointer (some ⟨D, 0, none⟩)] w fun e w' => ∃ v, e = .returned v ∧ R' v w' := by
  have k0 : Keeps [] w (w.alloc (.cells #[.pointer (some ⟨D, 0, none⟩)] 23)) := (Keeps.refl [] w).alloc _
  have b1 := Boxed.new w 23 (.pointer (some ⟨D, 0, none⟩))
  have hDl := h.base_le'
  have HO := Lib.hid h.ours
  have HF := Lib.hid (H _ k0 35 #[.pointer (some ⟨w.heap.size, 0, none⟩)] callFunc35 (fun W hW kW => by
    have hDl2 : D < w.heap.size := by
      obtain ⟨vf, N, L, vt, nn, nl, vb, h1⟩ := h.at_
      exact h1.d.lt
    refine (syncdir1_dxK hW (kW.boxed b1 (by simp; omega))).mono ?_
    rintro e w' ⟨v, he, hb, hr⟩
    exact ⟨v, he, ⟨(((k0.mono (by simp)).trans kW).below hDl.1 (by simpa using hDl.2)).trans hb.1, (((k0.mono (by simp)).trans kW).keepT (by simpa using HO.out)).trans hb.2⟩, hr⟩))
  have c1 := b1.cell
  clear H h b1 k0
  go_enter Try.func14, Try.ntmps14
  go_wp2_with fail
  refine HF.out.mono ?_
  rintro e w' ⟨v, rfl, hR⟩
  have HR := Lib.hid hR
  clear hR
  go_wp2
  go_ret
  exact ⟨v, rfl, HR.out⟩
end Go.Proofs.Ytebkgkaihjoamaa
