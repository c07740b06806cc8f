/- Slices that can be read; append of such a slice to an own row. -/
import Derived.Test.YtebkgkaihjoamaaOn
import Derived.Deep.RegionWith
namespace Go.Proofs.Ytebkgkaihjoamaa
open Go.RowKit Go.Proofs

/-- a slice whose elements can be read: of the call's own, or of another's -/
def Reads (w : World) (v : Value) (xs : List Value) : Prop :=
  (v = .slice none 0 0 ∧ xs = []) ∨ ∃ g o cap, v = .slice (some ⟨g, o, none⟩) xs.length cap ∧ g < w.heap.size ∧ ∀ j u, xs[j]? = some u → w.cell? ((⟨g, o, none⟩ : Addr).add j) = some u
theorem Reads.shape {w : World} {v : Value} {xs : List Value} (h : Reads w v xs) : ∃ p cap, v = .slice p xs.length cap := by
  rcases h with ⟨rfl, rfl⟩ | ⟨g, o, cap, rfl, _⟩
  · exact ⟨_, _, rfl⟩
  · exact ⟨_, _, rfl⟩
/-- the block that a slice lies in -/
def _root_.Go.Value.rowBlock : Value → Option Nat
  | .slice (some p) _ _ => some p.block
  | _ => none
theorem Addr.block_add (a : Addr) (j : Nat) : (a.add j).block = a.block := by unfold Addr.add; split <;> rfl
theorem Keeps.reads {X : List Nat} {w w' : World} {v : Value} {xs : List Value} (k : Keeps X w w') (h : Reads w v xs) (hx : ∀ g, v.rowBlock = some g → g ∉ X) : Reads w' v xs := by
  rcases h with h | ⟨g, o, cap, rfl, hg, hc⟩
  · exact .inl h
  · exact .inr ⟨g, o, cap, rfl, Nat.lt_of_lt_of_le hg k.size, fun j u hj => (World.cell?_of_block (by rw [Addr.block_add]; exact k.block g hg (hx g rfl))).trans (hc j u hj)⟩
theorem ownsRow_reads {w : World} {base : Nat} {e : TypeId} {v : Value} {n : Nat} {xs : List Value} (h : w.ownsRow base e 1 v n xs) : Reads w v xs := by
  have hl : xs.length = n := by simpa using h.1
  rcases ownsRow_shape h with ⟨rfl, rfl⟩ | ⟨g, cap, rfl, _, hg⟩
  · exact .inl ⟨rfl, List.length_eq_zero_iff.1 hl⟩
  · subst hl
    exact .inr ⟨g, 0, cap, rfl, hg, h.cells rfl⟩

theorem ownsRow_slice {w : World} {base : Nat} {e : TypeId} {size : Nat} {v : Value} {n : Nat} {xs : List Value} (h : w.ownsRow base e size v n xs) : ∃ p cap, v = .slice p n cap := by
  rcases ownsRow_shape h with ⟨rfl, rfl⟩ | ⟨g, cap, rfl, _⟩
  · exact ⟨_, _, rfl⟩
  · exact ⟨_, _, rfl⟩
/-- 'append(v, src...)' onto an own row, at a step of a region that draws: src may be nil -/
theorem step_append_row {P : Program} {w : World} {ops : Array Oper} {o : Oper} {a : Act} {K : Act → World → Prop} {Q : Exit → Act → World → Prop} {E : Prop} (hgd : o.guard = none) (s x : Operand) (t : TypeId)
    (ho : o.op = .call { callee := .builtin .append, args := #[s, x], argTypes := #[t, t] })
    (base : Nat) (e : TypeId) (i : TypeInfo) (z : Value) (bytes : Nat) (ht : P.underlying t = some (.slice e)) (hi : P.info? e = some i) (hz : i.zero = some z)
    (hsize : i.size = 1) (hby : i.bytes = bytes) (hzs : z.cells.size = 1)
    (v : Value) (n : Nat) (xs : List Value) (hs : a.eval s = v) (hown : w.ownsRow base e 1 v n xs)
    (src : Value) (news : List Value) (hx : a.eval x = src) (hsrc : Reads w src news) (h1 : ∀ u ∈ news, u.oneCell' = true)
    (h63 : n + news.length ≤ maxLen) (hbytes : (n + news.length) * bytes ≤ 140737488355328) (hbase : base ≤ w.heap.size)
    (h : ∀ v' w', w'.ownsRow base e 1 v' (n + news.length) (xs ++ news) → w.grownBy w' v.ownBlock → (v'.ownBlock = v.ownBlock ∨ v'.ownBlock = some w.heap.size) → K (a.put o.dst v') w') :
    if Region.wanted o (yielded ops a.tmps) = true then Oper.wp P o a w K Q else E := by
  have hw : Region.wanted o (yielded ops a.tmps) = true := by simp [Region.wanted, hgd]
  rw [if_pos hw]
  rcases hsrc with ⟨rfl, rfl⟩ | ⟨g, off, cap, rfl, _, hcells⟩
  · have hrun := run_append_owned_none (P := P) (w := w) base t o.type e i 1 ht hi v n xs hown
    unfold Oper.wp
    simp [execOp, ho, resolve, invoke, builtin, hs, hx, hrun, Result.andThen]
    exact h v w (by simpa using hown) (World.grownBy.refl w _) (.inl rfl)
  · obtain ⟨v', w', hr, h2, h3, _, h5⟩ := run_append_own_at (P := P) w base t o.type e i z 1 bytes ht hi hz hsize hby hzs (by omega) v n xs hown ⟨g, off, none⟩ news.length cap news (by simp) hcells h1 h63 hbytes hbase
    unfold Oper.wp execOp
    simp only [ho, resolve, invoke, builtin, Sem.run_bind, Sem.run_pure, Result.andThen_ok, List.map_toArray, List.map_cons, List.map_nil, hs, hx, hr]
    exact h v' w' h2 h3 h5

theorem info5 : (Try.prog.info? 5).map (fun i => (i.zero, i.size, i.bytes)) = some (some (.int .u8 0), 1, 1) := by kernel_rfl

end Go.Proofs.Ytebkgkaihjoamaa
