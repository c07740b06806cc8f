/- The maps from names to files. -/
import Derived.Test.YtebkgkaihjoamaaSets
import Derived.Laws.Externs
import Derived.Sort.MapsRangeIn
namespace Go.Proofs.Ytebkgkaihjoamaa
open Go.RowKit Go.Proofs Go.ChangeMaps

/-- how a name's element reads: as the number of the file's block -/
def Rp (v : Value) : Option (DataW Unit × List MemPlace) := match v with
  | .pointer none => some (.lit (.int .i64 (-1)), [])
  | .pointer (some ⟨b, 0, none⟩) => some (.lit (.int .i64 (b : Nat)), [])
  | _ => none
theorem Rp_ptr (f : Nat) : Rp (fptr f) = some (.lit (.int .i64 (f : Nat)), []) := rfl
theorem Rp_nil : Rp (.pointer none) = some (.lit (.int .i64 (-1)), []) := rfl
theorem Rp_inv {v : Value} {y : DataW Unit × List MemPlace} (h : Rp v = some y) : (v = .pointer none ∧ y = (.lit (.int .i64 (-1)), [])) ∨ ∃ f : Nat, v = fptr f ∧ y = (.lit (.int .i64 (f : Nat)), []) := by
  unfold Rp at h
  split at h
  · cases h; exact .inl ⟨rfl, rfl⟩
  · cases h; exact .inr ⟨_, rfl, rfl⟩
  · cases h
/-- block b is the names D -/
def NamesAt (w : World) (b n : Nat) (D : DataW Unit) : Prop := w.ownsMap Try.prog 9 Rp b n D
theorem key9 : Maps.Keyed Try.prog 9 := Maps.string_keyed Try.underlying9
/-- the file that a name leads to; none: -1 -/
def fileOf (D : DataW Unit) (s : List UInt8) : DataW Unit := D.atKey (.string s) (.lit (.int .i64 (-1)))
theorem zero62 (w : World) : (zeroValue 62).run Try.prog w = .ok (.pointer none) w := by kernel_rfl
theorem NamesAt.look {w : World} {b n : Nat} {D : DataW Unit} (h : NamesAt w b n D) (s : ByteArray) (hs : s.size ≤ maxLen) (f : Nat) (hf : fileOf D s.data.toList = .lit (.int .i64 (f : Nat))) :
    (Instr.lookup 56 (.map (some b)) (.string s) false).run Try.prog w = .ok (fptr f) w := by
  obtain ⟨v, ps, hr, hv⟩ := World.ownsMap.lookup h key9 Try.underlying56 (zero62 w) Rp_nil (WideMaps.keyOf_string_mk Try.underlying9 hs)
  have hf' : D.atKey (.string s.data.toList) (.lit (.int .i64 (-1))) = .lit (.int .i64 (f : Nat)) := hf
  rw [hf'] at hv
  rcases Rp_inv hv with ⟨rfl, h2⟩ | ⟨g, rfl, h2⟩
  · simp at h2
  · simp at h2
    obtain rfl : f = g := by omega
    exact hr
theorem NamesAt.miss {w : World} {b n : Nat} {D : DataW Unit} (h : NamesAt w b n D) (s : ByteArray) (hs : s.size ≤ maxLen) (hf : fileOf D s.data.toList = .lit (.int .i64 (-1))) :
    (Instr.lookup 56 (.map (some b)) (.string s) false).run Try.prog w = .ok (.pointer none) w := by
  obtain ⟨v, ps, hr, hv⟩ := World.ownsMap.lookup h key9 Try.underlying56 (zero62 w) Rp_nil (WideMaps.keyOf_string_mk Try.underlying9 hs)
  have hf' : D.atKey (.string s.data.toList) (.lit (.int .i64 (-1))) = .lit (.int .i64 (-1)) := hf
  rw [hf'] at hv
  rcases Rp_inv hv with ⟨rfl, h2⟩ | ⟨g, rfl, h2⟩
  · exact hr
  · simp at h2

theorem eql_map_nil (w : World) (b : Nat) : (binOp .eql 56 (.map (some b)) (.map none)).run Try.prog w = .ok (.bool false) w := by
  have h : ∀ d : Nat, (Op.equalIn (d + 1) 56 (.map (some b)) (.map none)).run Try.prog w = .ok false w := fun d => by
    simp [Op.equalIn, run_underlying Try.underlying56]
  simp only [binOp]
  simp [Op.equal, Op.maxDepth, h 9999]
theorem assert_map (w : World) (v : Value) : (Instr.typeAssert (.iface 56 v) 20 56 false).run Try.prog w = .ok v w := by
  simp [Instr.typeAssert, run_underlying Try.underlying56, go_sem, Result.andThen]
theorem extern_clone (w : World) {r : Nat} {es : Array MapEntry} {clock : Nat} (hb : w.heap[r]? = some (.map es clock)) :
    (Extern.MapsClone.clone #[.iface 56 (.map (some r))]).run Try.prog w = .ok (.iface 56 (.map (some w.heap.size))) (w.alloc (.map es clock)) := by
  have e : Extern.MapsClone.clone #[.iface 56 (.map (some r))] = (getObj r >>= fun o => match o with
      | .map entries clock => (newObj (.map entries clock) >>= fun n => pure (.iface 56 (.map (some n))))
      | _ => stuck "maps.clone: a map expected") := rfl
  rw [e]
  simp [MapKept.run_getObj_map hb, Result.andThen, go_sem]
set_option maxRecDepth 100000 in
set_option maxHeartbeats 1000000 in
theorem clone_map (w : World) (b n : Nat) (D : DataW Unit) (h : NamesAt w b n D) :
    Calls Try.prog 36 #[.map (some b)] w fun e w' => e = .returned (.map (some w.heap.size)) ∧ NamesAt w' w.heap.size n D ∧ w.grownBy w' none ∧ w'.heap.size = w.heap.size + 1 := by
  obtain ⟨es, clock, hb, hF, hn, hD⟩ := h
  have hq := fun w => eql_map_nil w b
  go_enter Try.func36, Try.ntmps36
  go_wp2
  rw [run_callFunc_extern Try.func53 (by kernel_rfl) (by kernel_rfl) (by kernel_rfl) (e := Extern.MapsClone.clone) (by kernel_rfl), extern_clone w hb]
  simp only [Result.andThen]
  rw [Oper.upon_value]
  go_wp2
  rw [assert_map]
  simp only [Result.andThen]
  rw [Oper.upon_value]
  go_wp2
  go_ret
  exact ⟨rfl, ⟨es, clock, (MapKept.heap_alloc w _).1, hF, hn, hD⟩, World.grownBy_alloc w _ none, by simp⟩
end Go.Proofs.Ytebkgkaihjoamaa
