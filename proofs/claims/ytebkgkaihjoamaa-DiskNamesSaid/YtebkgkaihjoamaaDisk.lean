/- A disk as a whole; Create. -/
import Derived.Test.YtebkgkaihjoamaaUsed
import Derived.RangeFuncBox
namespace Go.Proofs.Ytebkgkaihjoamaa
open Go.RowKit Go.Proofs

/-- bytes as values -/
def byteV (l : List Nat) : List Value := l.map fun x : Nat => Value.int .u8 (x : Int)
/-- what a disk is: its own numbers, its files with their bytes, its names, its turns; all of it at or behind block base -/
structure DAt (base : Nat) (w : World) (D : Nat) (q c st fl fe : Int) (dead : Bool) (fs : List Nat) (nm ls : DataW Unit) (tn : Nat) (tv : List Value) (con : Nat → List Nat × Nat) (vf : Value) (N L : Nat) (vt : Value) (nn nl : Nat) (vb : Nat → Value) : Prop where
  d : DiskIs w D q c st fl fe dead vf N L vt
  rf : w.ownsRow base 62 1 vf fs.length (fs.map fptr)
  rt : w.ownsRow base 66 4 vt tn tv
  n : NamesAt w N nn nm
  l : NamesAt w L nl ls
  ne : N ≠ L
  bD : base ≤ D
  bN : base ≤ N
  bL : base ≤ L
  bw : base ≤ w.heap.size
  f : ∀ f ∈ fs, base ≤ f ∧ w.heap[f]? = some (.cells #[vb f, .int .i64 (con f).2] 64 (0, 0)) ∧ w.ownsRow base 5 1 (vb f) (con f).1.length (byteV (con f).1)
  nd : fs.Nodup
  ap : ∀ f ∈ fs, ∀ g ∈ fs, f ≠ g → ∀ k, (vb f).ownBlock = some k → (vb g).ownBlock ≠ some k
/-- a disk lives on where none of its blocks has turned -/
theorem DAt.keep {base D tn nn nl N L : Nat} {w w' : World} {q c st fl fe : Int} {dead : Bool} {fs : List Nat} {nm ls : DataW Unit} {tv : List Value} {con : Nat → List Nat × Nat} {vf vt : Value} {vb : Nat → Value}
    (h : DAt base w D q c st fl fe dead fs nm ls tn tv con vf N L vt nn nl vb) (k : Keeps [] w w') : DAt base w' D q c st fl fe dead fs nm ls tn tv con vf N L vt nn nl vb :=
  ⟨k.disk h.d (by simp), k.row h.rf (by simp), k.row h.rt (by simp), k.names h.n (by simp), k.names h.l (by simp), h.ne, h.bD, h.bN, h.bL, Nat.le_trans h.bw k.size,
    fun f hf => ⟨(h.f f hf).1, (k.block f (Array.getElem?_eq_some_iff.1 (h.f f hf).2.1).1 (by simp)).trans (h.f f hf).2.1, k.row (h.f f hf).2.2 (by simp)⟩, h.nd, h.ap⟩

theorem map_own_ne {w : World} {N n base size k : Nat} {D : DataW Unit} {e : TypeId} {v : Value} {xs : List Value} (hN : NamesAt w N n D) (h : w.ownsRow base e size v k xs) : v.ownBlock ≠ some N := fun hv => by
  obtain ⟨cs, hc⟩ := own_cells h hv
  exact map_ne hN hc rfl
theorem own_own_ne {w : World} {base base' size size' n m k : Nat} {e e' : TypeId} {v v' : Value} {xs xs' : List Value} (h : w.ownsRow base e size v n xs) (h' : w.ownsRow base' e' size' v' m xs') (he : e ≠ e') (hv : v.ownBlock = some k) : v'.ownBlock ≠ some k := fun hv' => by
  obtain ⟨cs, hc⟩ := own_cells h' hv'
  exact own_ne h hc he hv
/-- the disk's own numbers turn -/
theorem DAt.turnD {base D tn nn nl N L : Nat} {w w' : World} {q c st fl fe q' c' st' fl' fe' : Int} {dead dead' : Bool} {fs : List Nat} {nm ls : DataW Unit} {tv : List Value} {con : Nat → List Nat × Nat} {vf vt : Value} {vb : Nat → Value}
    (h : DAt base w D q c st fl fe dead fs nm ls tn tv con vf N L vt nn nl vb) (k : Keeps [D] w w') (hd : DiskIs w' D q' c' st' fl' fe' dead' vf N L vt) : DAt base w' D q' c' st' fl' fe' dead' fs nm ls tn tv con vf N L vt nn nl vb :=
  ⟨hd, k.row h.rf fun j hj hm => own_ne h.rf h.d (by decide) (List.mem_singleton.1 hm ▸ hj), k.row h.rt fun j hj hm => own_ne h.rt h.d (by decide) (List.mem_singleton.1 hm ▸ hj),
    k.names h.n (by simpa using map_ne h.n h.d), k.names h.l (by simpa using map_ne h.l h.d), h.ne, h.bD, h.bN, h.bL, Nat.le_trans h.bw k.size,
    fun f hf => ⟨(h.f f hf).1, (k.block f (Array.getElem?_eq_some_iff.1 (h.f f hf).2.1).1 (by simpa using cells_ne (h.f f hf).2.1 h.d (by decide))).trans (h.f f hf).2.1, k.row (h.f f hf).2.2 fun j hj hm => own_ne (h.f f hf).2.2 h.d (by decide) (List.mem_singleton.1 hm ▸ hj)⟩, h.nd, h.ap⟩

theorem callFunc34 (A : Array Value) (W : World) : (callFunc 34 A).run Try.prog W = .ok (.enter 34 A) W := by kernel_rfl

set_option maxRecDepth 100000 in
/-- Create, of a name that is not there -/
theorem create_ok {base D tn nn nl N L : Nat} {w : World} {q c st fe : Int} {fs : List Nat} {nm ls : DataW Unit} {tv : List Value} {con : Nat → List Nat × Nat} {vf vt : Value} {vb : Nat → Value}
    (h : DAt base w D q c st 0 fe false fs nm ls tn tv con vf N L vt nn nl vb) (s : ByteArray) (hs : s.size ≤ maxLen) (ok : nameOk s = true) (hmiss : fileOf nm s.data.toList = .lit (.int .i64 (-1))) (hlen : Maps.size nm < 64)
    (hnn : nn ≤ 1000000) (hfn : fs.length ≤ 100000) (htn : tn ≤ 100000) (hc : 0 ≤ c ∧ c ≤ 1000000) (hst : st ≤ 0) :
    Calls Try.prog 13 #[.pointer (some ⟨D, 0, none⟩), .string s] w fun e w' => ∃ v, e = .returned v ∧ v = .int .i64 0 ∧ ∃ f vf' vt', w.heap.size ≤ f ∧ Below base w w' ∧
      DAt base w' D q (c + 1) st 0 fe false (fs ++ [f]) (nm.put (.string s.data.toList) (.lit (.int .i64 (f : Nat)))) ls (tn + 1) (tv ++ [.int .i64 0, .string s, .string ⟨#[]⟩, fptr f])
        (fun g => if g = f then ([], 0) else con g) vf' N L vt' (nn + 1) nl (fun g => if g = f then .slice none 0 0 else vb g) := by
  have HA := Lib.hid (name_any s hs ((w.alloc (.cells #[.pointer (some ⟨D, 0, none⟩)] 23)).alloc (.cells #[.string s] 9)))
  rw [ok] at HA
  have k0 : Keeps [] w ((w.alloc (.cells #[.pointer (some ⟨D, 0, none⟩)] 23)).alloc (.cells #[.string s] 9)) := ((Keeps.refl [] w).alloc _).alloc _
  have h0 := h.keep k0
  have b1 := (Boxed.new w 23 (.pointer (some ⟨D, 0, none⟩))).alloc (.cells #[.string s] 9)
  have b2 := Boxed.new (w.alloc (.cells #[.pointer (some ⟨D, 0, none⟩)] 23)) 9 (.string s)
  rw [World.size_alloc] at b2
  generalize hW0 : ((w.alloc (.cells #[.pointer (some ⟨D, 0, none⟩)] 23)).alloc (.cells #[.string s] 9)) = W0 at *
  have hs0 : w.heap.size < W0.heap.size := by have := b1.lt; exact this
  have hd2 := (h0.d.calls (c + 1)).alloc (.cells #[.pointer (some ⟨D, 0, none⟩)] 23)
  have k2 : Keeps [D] W0 ((W0.setCell ⟨D, 1, none⟩ (.int .i64 (c + 1))).alloc (.cells #[.pointer (some ⟨D, 0, none⟩)] 23)) := ((Keeps.refl [D] W0).setCell _ _ fun _ => by simp).alloc _
  have h2 := h0.turnD k2 hd2
  have b12 := k2.boxed b1 (by simpa using cells_ne b1 h0.d (by decide))
  have b22 := k2.boxed b2 (by simpa using cells_ne b2 h0.d (by decide))
  have hcall := call_plain W0 D 34 #[.pointer (some ⟨w.heap.size, 0, none⟩), .pointer (some ⟨w.heap.size + 1, 0, none⟩)] q c st fe vf N L vt h0.d hc hst callFunc34
  generalize hW2 : ((W0.setCell ⟨D, 1, none⟩ (.int .i64 (c + 1))).alloc (.cells #[.pointer (some ⟨D, 0, none⟩)] 23)) = W2 at *
  have hcr := create1 W2 D w.heap.size (w.heap.size + 1) base s q (c + 1) st 0 fe vf N L vt fs nn nm tn tv b12 b22 h2.d hs h2.rf h2.n h2.rt hmiss hlen hnn h2.bw hfn htn
  have hfin := hcall (fun v w' => v = .int .i64 0 ∧ ∃ f vf' vt', w.heap.size ≤ f ∧ Below base w w' ∧
      DAt base w' D q (c + 1) st 0 fe false (fs ++ [f]) (nm.put (.string s.data.toList) (.lit (.int .i64 (f : Nat)))) ls (tn + 1) (tv ++ [.int .i64 0, .string s, .string ⟨#[]⟩, fptr f])
        (fun g => if g = f then ([], 0) else con g) vf' N L vt' (nn + 1) nl (fun g => if g = f then .slice none 0 0 else vb g)) (hcr.mono fun e w' hp => by
    obtain ⟨rfl, vf', vt', p1, p2, p3, p4, p5, p6⟩ := hp
    have hX : ∀ j, j ≠ D → j ≠ N → vf.ownBlock ≠ some j → vt.ownBlock ≠ some j → j ∉ D :: N :: (vf.ownBlock.toList ++ vt.ownBlock.toList) := fun j a1 a2 a3 a4 hj => by
      simp only [List.mem_cons, List.mem_append, Option.mem_toList] at hj
      rcases hj with hj | hj | hj | hj
      · exact a1 hj
      · exact a2 hj
      · exact a3 hj
      · exact a4 hj
    have hnew : ∀ g ∈ fs, g ≠ W2.heap.size := fun g hg e => by have := (Array.getElem?_eq_some_iff.1 (h2.f g hg).2.1).1; omega
    refine ⟨_, rfl, rfl, W2.heap.size, vf', vt', ?_, ?_, ⟨p1, by simpa using p2, p3, p4, p6.names h2.l (hX L (map_ne h2.l h2.d) h2.ne.symm (map_own_ne h2.l h2.rf) (map_own_ne h2.l h2.rt)), h2.ne, h2.bD, h2.bN, h2.bL, Nat.le_trans h2.bw p6.size, fun g hg => ?_, ?_, ?_⟩⟩
    · have := k2.size; omega
    · refine (k0.below h.bw (by simp)).trans ((k2.below h0.bw (by simpa using h.bD)).trans (p6.below h2.bw fun x hx => ?_))
      simp only [List.mem_cons, List.mem_append, Option.mem_toList] at hx
      rcases hx with rfl | rfl | hx | hx
      · exact h.bD
      · exact h.bN
      · exact (h2.rf.lt x hx).1
      · exact (h2.rt.lt x hx).1
    · rcases List.mem_append.1 hg with hg | hg
      · rw [if_neg (hnew g hg), if_neg (hnew g hg)]
        obtain ⟨a1, a2, a3⟩ := h2.f g hg
        refine ⟨a1, (p6.block g (Array.getElem?_eq_some_iff.1 a2).1 (hX g (cells_ne a2 h2.d (by decide)) (map_ne h2.n a2).symm (fun e => own_ne h2.rf a2 (by decide) e) (fun e => own_ne h2.rt a2 (by decide) e))).trans a2, p6.row a3 fun j hj => ?_⟩
        exact hX j (fun e => own_ne a3 h2.d (by decide) (e ▸ hj)) (fun e => map_own_ne h2.n a3 (e ▸ hj)) (own_own_ne a3 h2.rf (by decide) hj) (own_own_ne a3 h2.rt (by decide) hj)
      · obtain rfl := List.mem_singleton.1 hg
        rw [if_pos rfl, if_pos rfl]
        exact ⟨h2.bw, p5, World.ownsRow_nil _ _ _ _⟩
    · exact List.nodup_append.2 ⟨h2.nd, by simp, fun a ha b hb => by obtain rfl := List.mem_singleton.1 hb; exact hnew a ha⟩
    · intro a ha b hb hab j hj
      rcases List.mem_append.1 ha with ha' | ha'
      · rw [if_neg (hnew a ha')] at hj
        rcases List.mem_append.1 hb with hb' | hb'
        · rw [if_neg (hnew b hb')]; exact h2.ap a ha' b hb' hab j hj
        · obtain rfl := List.mem_singleton.1 hb'
          rw [if_pos rfl]; simp [Value.ownBlock]
      · obtain rfl := List.mem_singleton.1 ha'
        rw [if_pos rfl] at hj; simp [Value.ownBlock] at hj)
  have HF := Lib.hid hfin
  have hb2c := b2.cell
  have hb1c := b1.cell
  clear hcall hcr hfin h2 h0 b12 b22 k2 hd2 h hW2
  subst hW0
  go_enter Try.func13, Try.ntmps13
  go_wp2_with (first | (go_at_call 32; (with_reducible refine HA.out.mono ?_); rintro e w' ⟨rfl, rfl⟩))
  refine HF.out.mono ?_
  rintro e w' ⟨v, rfl, rfl, hp⟩
  have HP := Lib.hid hp
  clear hp
  go_wp2
  go_ret
  exact ⟨_, rfl, rfl, HP.out⟩
end Go.Proofs.Ytebkgkaihjoamaa
