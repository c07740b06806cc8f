/- What the walk of DiskNames wants beside: a name's text, the row of the names that are wanted, an element of a slice of bools that came in. -/
import Derived.Test.YtebkgkaihjoamaaNamesP
import Derived.Test.YtebkgkaihjoamaaOpens
namespace Go.Proofs.Ytebkgkaihjoamaa
open Go.RowKit Go.Proofs

theorem info9 : (Try.prog.info? 9).map (fun i => (i.zero, i.size, i.bytes)) = some (some (.string ByteArray.empty), 1, 16) := by kernel_rfl
/-- a slice of one byte that lies anew, as a text -/
theorem conv_single (w : World) (x : UInt8) (a : Int) (ha : a = (x.toNat : Int)) :
    (convert 29 9 (.slice (some ⟨w.heap.size, 0, none⟩) 1 1)).run Try.prog (w.alloc (.cells #[.int .u8 a] 5)) = .ok (.string (textOf [x])) (w.alloc (.cells #[.int .u8 a] 5)) := by
  subst ha
  refine reads_string (l := [x]) (.inr ⟨w.heap.size, 0, 1, rfl, by simp, fun j u hj => ?_⟩)
  have hn : (w.alloc (.cells #[.int .u8 (x.toNat : Int)] 5)).heap[w.heap.size]? = some (.cells #[.int .u8 (x.toNat : Int)] 5 (0, 0)) := heap_alloc_new w _
  rw [show ((⟨w.heap.size, 0, none⟩ : Addr).add j) = ⟨w.heap.size, j, none⟩ from by cases j <;> simp [Addr.add]]
  simp only [World.cell?, hn]
  match j with
  | 0 => simpa [cellsOf] using hj
  | j + 1 => simp [cellsOf] at hj
/-- how the k-th name comes to be -/
theorem nName_comes (w : World) (k : Nat) (hk : k < 16) : ∃ t2 t3 : ByteArray,
    (convert 29 9 (.slice (some ⟨w.heap.size, 0, none⟩) 1 1)).run Try.prog (w.alloc (.cells #[.int .u8 (97 + (k : Int))] 5)) = .ok (.string t2) (w.alloc (.cells #[.int .u8 (97 + (k : Int))] 5)) ∧
    (∀ W, (binOp .add 9 (.string ⟨#[110]⟩) (.string t2)).run Try.prog W = .ok (.string t3) W) ∧ (∀ W, (Op.stringOp .add ⟨#[110]⟩ t2).run Try.prog W = .ok (.string t3) W) ∧ t3 = textOf (nName k) :=
  ⟨_, _, conv_single w (UInt8.ofNat (97 + k)) _ (by simp; omega), fun W => add_text W [110] _ (by simp), fun W => add_text2 W [110] _ (by simp), rfl⟩
theorem came_bool {w W : World} {a : Option Addr} {n cap : Nat} {l : List Bool} (h : Came w a n cap (boolsV l)) (hB : Below w.heap.size w W) (i : Nat) (hi : i < l.length) : ∃ g o, a = some ⟨g, o, none⟩ ∧ g < w.heap.size ∧ W.cell? ⟨g, o + i, none⟩ = some (.bool l[i]) := by
  obtain ⟨h1, _, _, h4⟩ := h
  have hn : n = l.length := by rw [h1]; simp [boolsV]
  rcases h4 with h4 | ⟨g, o, rfl, hg, hc⟩
  · omega
  · exact ⟨g, o, rfl, hg, (hB.cell (p := ⟨g, o + i, none⟩) hg).trans (hc i _ (by simp [boolsV, hi]))⟩
/-- a disk, where a block of another kind was written -/
theorem DX.keepV {base D d : Nat} {w w' : World} {S : St} {cs : Array Value} {t : TypeId} {fr : Nat × Nat} (h : DX base w D S) (k : Keeps [d] w w') (hd : w.heap[d]? = some (.cells cs t fr)) (ht : t ∉ [5, 60, 62, 64, 66]) : DX base w' D S := by
  obtain ⟨vf, N, L, vt, nn, nl, vb, h1⟩ := h.at_
  have hX : ∀ j cs t fr, w.heap[j]? = some (.cells cs t fr) → t ∈ [5, 60, 62, 64, 66] → j ∉ [d] := fun j cs t fr hj ht2 hmem => by
    obtain rfl := List.mem_singleton.1 hmem
    rw [hd] at hj
    cases hj
    exact ht ht2
  have hXr : ∀ {e : TypeId} {size n : Nat} {v : Value} {xs : List Value}, w.ownsRow base e size v n xs → e ∈ [5, 60, 62, 64, 66] → ∀ j, v.ownBlock = some j → j ∉ [d] := fun hr he j hj => by
    obtain ⟨cs, hcc⟩ := own_cells hr hj
    exact hX j cs _ _ hcc he
  have hXm : ∀ {Nx n : Nat} {Dx : DataW Unit}, NamesAt w Nx n Dx → Nx ∉ [d] := fun hn hmem => by
    obtain rfl := List.mem_singleton.1 hmem
    obtain ⟨es, cl, hb, _⟩ := hn
    rw [hd] at hb
    cases hb
  exact { h with at_ := ⟨vf, N, L, vt, nn, nl, vb, k.disk h1.d (hX D _ _ _ h1.d (by simp)), k.row h1.rf (hXr h1.rf (by simp)), k.row h1.rt (hXr h1.rt (by simp)), k.names h1.n (hXm h1.n), k.names h1.l (hXm h1.l), h1.ne, h1.bD, h1.bN, h1.bL, Nat.le_trans h1.bw k.size,
    fun f hf => ⟨(h1.f f hf).1, (k.block f (Array.getElem?_eq_some_iff.1 (h1.f f hf).2.1).1 (hX f _ _ _ (h1.f f hf).2.1 (by simp))).trans (h1.f f hf).2.1, k.row (h1.f f hf).2.2 (hXr (h1.f f hf).2.2 (by simp))⟩, h1.nd, h1.ap⟩ }
/-- a disk, where an own row of texts grew -/
theorem DX.grew {base b D n : Nat} {w w' : World} {S : St} {v : Value} {xs : List Value} (h : DX base w D S) (hr : w.ownsRow b 9 1 v n xs) (hg : w.grownBy w' v.ownBlock) : DX base w' D S := by
  cases hv : v.ownBlock with
  | none => exact h.keep ((Keeps.refl [] w).grown hg (fun k e => by rw [hv] at e; cases e))
  | some g =>
    obtain ⟨cs, hc⟩ := own_cells hr hv
    exact h.keepV ((Keeps.refl [g] w).grown hg fun k e _ => by rw [hv] at e; cases e; simp) hc (by simp)
theorem grew_below {b n : Nat} {a w w' : World} {v : Value} {xs : List Value} (h : Below b a w) (hb : b ≤ w.heap.size) (hr : w.ownsRow b 9 1 v n xs) (hg : w.grownBy w' v.ownBlock) : Below b a w' := h.grown hg hb fun k e => by
  rcases hr.2 with ⟨rfl, _⟩ | ⟨g, cap, cur, rfl, h2, _⟩
  · cases e
  · cases e; exact h2
/-- a row of no texts that lies anew -/
theorem own_none (w : World) (b : Nat) (hb : b ≤ w.heap.size) : (w.alloc (.cells #[] 9)).ownsRow b 9 1 (.slice (some ⟨w.heap.size, 0, none⟩) 0 0) 0 [] :=
  ⟨rfl, .inr ⟨_, 0, #[], rfl, hb, heap_alloc_new w _, Nat.le_refl _, Nat.zero_le _, rfl, rfl⟩⟩
theorem own_next {w : World} {b k n : Nat} {sy : Bool} {kp : List Bool} {v : Value} {t : ByteArray} (h : w.ownsRow b 9 1 v n ((wantN sy kp k).map encStr ++ [.string t])) (ht : t = textOf (nName k)) (hk : keepB sy kp k = true) : w.ownsRow b 9 1 v (wantN sy kp (k + 1)).length ((wantN sy kp (k + 1)).map encStr) := by
  have e : (wantN sy kp (k + 1)).map encStr = (wantN sy kp k).map encStr ++ [.string t] := by
    rw [wantN_succ, if_pos hk, List.map_append, ht]
    rfl
  have hl : (wantN sy kp (k + 1)).length = n := by
    have h1 := h.1
    rw [← e] at h1
    simpa using h1
  rw [e, hl]
  exact h
theorem own_same {w : World} {b k : Nat} {sy : Bool} {kp : List Bool} {v : Value} (h : w.ownsRow b 9 1 v (wantN sy kp k).length ((wantN sy kp k).map encStr)) (hk : keepB sy kp k = false) : w.ownsRow b 9 1 v (wantN sy kp (k + 1)).length ((wantN sy kp (k + 1)).map encStr) := by
  rw [wantN_succ, if_neg (by rw [hk]; exact Bool.false_ne_true)]
  exact h
theorem own_last {w : World} {b n : Nat} {l : List (List UInt8)} {v : Value} {t : ByteArray} (h : w.ownsRow b 9 1 v n (l.map encStr ++ [.string t])) (ht : t = textOf oldN) : StrRow w v (l ++ [oldN]) := by
  refine own_str (base := b) (n := n) ?_
  rw [List.map_append, show [oldN].map encStr = [.string t] by rw [ht]; rfl]
  exact h
end Go.Proofs.Ytebkgkaihjoamaa
