/- The contract of concordanceref9.SameInts at two slices that read alike; an append of one own row to another. -/
import Derived.Test.YtekpjfbhhfcjnaaMore
import Derived.Laws.AppendOwnNone
namespace Go.Proofs.Ytekpjfbhhfcjnaa
open Go.RowKit Go.Proofs

/-- the elements of a slice of ints that are not negative -/
def IntsAt (w : World) (p : Option Addr) (ps : List Nat) : Prop :=
  ps = [] ∨ ∃ b off, p = some ⟨b, off, none⟩ ∧ b < w.heap.size ∧ ∀ i, i < ps.length → w.cell? ⟨b, off + i, none⟩ = some (.int .i64 ((ps[i]?).getD 0 : Nat))
theorem IntsAt.below {w w' : World} {p : Option Addr} {ps : List Nat} (h : IntsAt w p ps) (hB : Below w.heap.size w w') : IntsAt w' p ps := by
  rcases h with rfl | ⟨b, off, rfl, hb, hc⟩
  · exact .inl rfl
  · exact .inr ⟨b, off, rfl, Nat.lt_of_lt_of_le hb hB.size, fun i hi => (hB.cell (p := ⟨b, off + i, none⟩) hb).trans (hc i hi)⟩
theorem intsAt_of_owns {w : World} {base : Nat} {v : Value} {ps : List Nat} (h : w.ownsRow base 3 1 v ps.length (ps.map fun x : Nat => Value.int .i64 (x : Int))) : ∃ p cap, v = .slice p ps.length cap ∧ IntsAt w p ps := by
  obtain ⟨p, cap, rfl, h2⟩ := ints_of_owns h
  refine ⟨p, cap, rfl, ?_⟩
  rcases h2 with rfl | ⟨g, rfl, _, hg, hc⟩
  · exact .inl rfl
  · exact .inr ⟨g, 0, rfl, hg, fun i hi => by rw [Nat.zero_add]; exact hc i hi⟩

theorem same_any (w : World) (p q : Option Addr) (c d : Nat) (ps : List Nat) (hps : ps.length ≤ 9223372036854775807) (h1 : IntsAt w p ps) (h2 : IntsAt w q ps) :
    Calls Try.prog 19 #[.slice p ps.length c, .slice q ps.length d] w fun e w' => e = .returned (.bool true) ∧ ∃ n, w' = w.drewN n := by
  go_enter Try.func19, Try.ntmps19
  go_wp2
  go_loopw [5] (fun i wr => ∃ k m : Nat, k ≤ ps.length ∧ i = .int .i64 k ∧ wr = w.drewN m) (fun i _ => ps.length - (intOf i).toNat)
  case atStart => exact ⟨0, 0, Nat.zero_le _, rfl, rfl⟩
  case round =>
    obtain ⟨k, m, hk, rfl, rfl⟩ := hrel
    by_cases hlt : k < ps.length
    · rcases h1 with hnil | ⟨b1, o1, rfl, _, hc1⟩
      · rw [hnil] at hlt; simp at hlt
      rcases h2 with hnil | ⟨b2, o2, rfl, _, hc2⟩
      · rw [hnil] at hlt; simp at hlt
      have g1 := hc1 k hlt
      have g2 := hc2 k hlt
      clear hc1 hc2
      generalize (ps[k]?).getD 0 = x at *
      have hi1 : (0 : Int) ≤ (k : Int) := by omega
      have hi2 : (k : Int) < (ps.length : Int) := by omega
      go_wp2
      go_quiet (fail)
      go_wp2
      go_roundw
      case rel => exact ⟨k + 1, _, by omega, by go_num, rfl⟩
      case measure => simp [intOf]; omega
    · go_wp2
      go_ret
      exact ⟨rfl, _, rfl⟩

/-- 'append(v, src...)', both rows of the call's own: src may be nil; the operation may be guarded -/
theorem wpList_append_row {P : Program} {w : World} {ops : Array Oper} {rest : List Oper} {o : Oper} {a : Act} {Q : Exit → Act → World → Prop} (hw : Region.wanted o (yielded ops a.tmps) = true) (s x : Operand) (t : TypeId)
    (ho : o.op = .call { callee := .builtin .append, args := #[s, x], argTypes := #[t, t] })
    (base : Nat) (e : TypeId) (i : TypeInfo) (z : Value) (size bytes : Nat) (ht : P.underlying t = some (.slice e)) (hi : P.info? e = some i) (hz : i.zero = some z)
    (hsize : i.size = size) (hby : i.bytes = bytes) (hzs : z.cells.size = size) (hsz : 0 < size)
    (v : Value) (n : Nat) (xs : List Value) (hs : a.eval s = v) (hown : w.ownsRow base e size v n xs)
    (base2 : Nat) (src : Value) (m : Nat) (news : List Value) (hx : a.eval x = src) (hsrc : w.ownsRow base2 e size src m news) (h1 : ∀ u ∈ news, u.oneCell' = true)
    (h63 : n + m ≤ maxLen) (hbytes : (n + m) * bytes ≤ 140737488355328) (hbase : base ≤ w.heap.size)
    (h : ∀ v' w', w'.ownsRow base e size v' (n + m) (xs ++ news) → w.grownBy w' v.ownBlock → wpList P ops Q rest (a.put o.dst v') w') : wpList P ops Q (o :: rest) a w := by
  have hs2 := hsrc
  unfold wpList
  rw [if_pos hw]
  refine .inl ?_
  rcases hsrc.2 with ⟨rfl, rfl⟩ | ⟨g, cap, cur, rfl, _⟩
  · have hrun := run_append_owned_none (P := P) (w := w) base t o.type e i size ht hi v n xs hown
    unfold Oper.wp
    simp [execOp, ho, resolve, invoke, builtin, hs, hx, hrun, Result.andThen]
    refine h v w ?_ (World.grownBy.refl w _)
    obtain rfl : news = [] := List.length_eq_zero_iff.1 (by simpa using hsrc.1)
    simpa using hown
  · exact wp_append_own w s x t ho base e i z size bytes ht hi hz hsize hby hzs hsz v n xs hs hown ⟨g, 0, none⟩ m cap news hx hs2.1 (hs2.cells rfl) h1 h63 hbytes hbase fun v' w' h2 h3 _ => h v' w' h2 h3

/-- a store into an own row, its elements of one cell -/
theorem ownsRow_set {w : World} {base : Nat} {e : TypeId} {g cap n : Nat} {xs : List Value} (h : w.ownsRow base e 1 (.slice (some ⟨g, 0, none⟩) n cap) n xs) (i : Nat) (u : Value) :
    (w.setCell ⟨g, i, none⟩ u).ownsRow base e 1 (.slice (some ⟨g, 0, none⟩) n cap) n (xs.set i u) := by
  obtain ⟨hl, hr⟩ := h
  refine ⟨by simpa using hl, ?_⟩
  rcases hr with ⟨h0, _⟩ | ⟨g', cap', cur, hv, hg, hh, hn, hcap, hsz, ht⟩
  · cases h0
  · simp at hv
    obtain ⟨rfl, rfl⟩ := hv
    refine .inr ⟨g, cap, cur.setIfInBounds i u, rfl, hg, ?_, hn, hcap, by simpa using hsz, ?_⟩
    · simp [World.setCell, Array.getElem?_modify, hh]
    · rw [Array.toList_setIfInBounds, List.take_set, ht]
theorem ownsRow_frozen {w : World} {base : Nat} {e : TypeId} {g cap n : Nat} {xs : List Value} (h : w.ownsRow base e 1 (.slice (some ⟨g, 0, none⟩) n cap) n xs) (i : Nat) : w.frozen? ⟨g, i, none⟩ = false := by
  rcases h.2 with ⟨h0, _⟩ | ⟨g', cap', cur, hv, hg, hh, _⟩
  · cases h0
  · simp at hv
    obtain ⟨rfl, rfl⟩ := hv
    simp [World.frozen?, hh]
theorem ownsRow_cell {w : World} {base : Nat} {e : TypeId} {g cap n : Nat} {xs : List Value} (h : w.ownsRow base e 1 (.slice (some ⟨g, 0, none⟩) n cap) n xs) (i : Nat) (u : Value) (hi : xs[i]? = some u) : w.cell? ⟨g, i, none⟩ = some u := by
  have := h.cells (g := g) rfl i u hi
  rwa [show ((⟨g, 0, none⟩ : Addr).add i) = ⟨g, i, none⟩ from by cases i <;> simp [Addr.add]] at this
theorem ownsRow_shape {w : World} {base : Nat} {e : TypeId} {size : Nat} {v : Value} {n : Nat} {xs : List Value} (h : w.ownsRow base e size v n xs) : (v = .slice none 0 0 ∧ n = 0) ∨ ∃ g cap, v = .slice (some ⟨g, 0, none⟩) n cap ∧ base ≤ g ∧ g < w.heap.size := by
  rcases h.2 with h | ⟨g, cap, cur, hv, hg, hh, _⟩
  · exact .inl h
  · exact .inr ⟨g, cap, hv, hg, (Array.getElem?_eq_some_iff.1 hh).1⟩

theorem ownsRow_below {w w' : World} {base : Nat} {e : TypeId} {size : Nat} {v : Value} {n : Nat} {xs : List Value} (h : w.ownsRow base e size v n xs) (hB : Below w.heap.size w w') : w'.ownsRow base e size v n xs := by
  refine ⟨h.1, ?_⟩
  rcases h.2 with h | ⟨g, cap, cur, hv, hg, hh, r⟩
  · exact .inl h
  · exact .inr ⟨g, cap, cur, hv, hg, (hB.block g (Array.getElem?_eq_some_iff.1 hh).1).trans hh, r⟩
end Go.Proofs.Ytekpjfbhhfcjnaa
