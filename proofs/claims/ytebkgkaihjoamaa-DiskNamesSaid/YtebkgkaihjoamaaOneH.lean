/- Append to the one file, however the call counts. -/
import Derived.Test.YtebkgkaihjoamaaOpens
import Derived.Test.YtebkgkaihjoamaaCallF
namespace Go.Proofs.Ytebkgkaihjoamaa
open Go.RowKit Go.Proofs

theorem Handed.imp {base D : Nat} {w : World} {S1 : St} {R R0 R' : Value → World → Prop} (H : Handed base w D S1 R0 R') (h : ∀ v w', R v w' → R0 v w') : Handed base w D S1 R R' :=
  fun w1 k F caps hcf hdo => H w1 k F caps hcf fun W hW kW => (hdo W hW kW).mono fun _ _ ⟨v, he, hr⟩ => ⟨v, he, h _ _ hr⟩
/-- what Append answers where there is room -/
def Grown (base : Nat) (w : World) (D : Nat) (S2 : St) (v : Value) (w' : World) : Prop := v = .int .i64 0 ∧ Below base w w' ∧ DX base w' D S2
theorem append_oneH {base D : Nat} {w : World} {S S1 : St} {s : ByteArray} {f last : Nat} {b : List UInt8} (h : DX base w D S) (o : One S1 s f b last) (hdead : S1.dead = false) (hq : S1.q = 1048576) (hs : s.size ≤ maxLen) (ok : nameOk s = true) (src : Value) (l : List UInt8) (hsrc : Reads w src (cellsOf l)) (hrb : src.rowBlock ≠ some D) (hl : b.length + l.length ≤ 200000)
    (R' : Value → World → Prop) (H : Handed base w D S1 (Grown base w D (S1.file f (b ++ l) last)) R') :
    Calls Try.prog 23 #[.pointer (some ⟨D, 0, none⟩), .string s, src] w fun e w' => ∃ v, e = .returned v ∧ R' v w' := by
  have hu : S1.used = b.length := o.used
  refine append_dx (S1 := S1) h s hs ok f o.file (by rw [o.fs]; simp) src l hsrc hrb _ (H.imp fun v w' ⟨hb, hor⟩ => ?_) hdead (by rw [o.con]; exact hl) (by rw [hq]; decide)
  rw [o.con] at hor
  rcases hor with ⟨h1, _⟩ | ⟨_, rfl, h3⟩
  · exfalso
    rw [hu, hq] at h1
    omega
  · exact ⟨rfl, hb, h3⟩
theorem One.put' {S : St} {s : ByteArray} {f last : Nat} {b : List UInt8} (o : One S s f b last) (b' : List UInt8) (last' : Nat) : One (S.file f b' last') s f b' last' := ⟨o.nm, o.fs, by simp [St.file]⟩
theorem One.nearer {S : St} {s : ByteArray} {f last : Nat} {b : List UInt8} (o : One S s f b last) : One S.nearer s f b last := ⟨o.nm, o.fs, o.con⟩
theorem One.count {S : St} {s : ByteArray} {f last : Nat} {b : List UInt8} (o : One S s f b last) : One S.count s f b last := ⟨o.nm, o.fs, o.con⟩
theorem text_append (a b : List UInt8) : textOf a ++ textOf b = textOf (a ++ b) := by
  have h : (textOf a ++ textOf b).data = (textOf (a ++ b)).data := by
    rw [ByteArray.data_append]
    simp
  cases hx : textOf a ++ textOf b
  rw [hx] at h
  simpa using h
theorem add_text (w : World) (a b : List UInt8) (h : a.length + b.length ≤ 1000000) : (binOp .add 9 (.string (textOf a)) (.string (textOf b))).run Try.prog w = .ok (.string (textOf (a ++ b))) w := by
  have h1 : (Op.stringOp .add (textOf a) (textOf b)).run Try.prog w = .ok (.string (textOf a ++ textOf b)) w := run_string_add_sum w _ _ (by rw [textOf_size, textOf_size]; omega)
  rw [text_append] at h1
  have h2 : (binOp .add 9 (.string (textOf a)) (.string (textOf b))).run Try.prog w = (Op.stringOp .add (textOf a) (textOf b)).run Try.prog w := by
    simp [binOp]
  rw [h2, h1]
theorem add_text2 (w : World) (a b : List UInt8) (h : a.length + b.length ≤ 1000000) : (Op.stringOp .add (textOf a) (textOf b)).run Try.prog w = .ok (.string (textOf (a ++ b))) w := by
  have h1 : (Op.stringOp .add (textOf a) (textOf b)).run Try.prog w = .ok (.string (textOf a ++ textOf b)) w := run_string_add_sum w _ _ (by rw [textOf_size, textOf_size]; omega)
  rwa [text_append] at h1
/-- an element of a slice of ints that came in, in a later world -/
theorem came_int {w W : World} {a : Option Addr} {n cap : Nat} {l : List Int} (h : Came w a n cap (intsV l)) (hB : Below w.heap.size w W) (i : Nat) (hi : i < l.length) : ∃ g o, a = some ⟨g, o, none⟩ ∧ g < w.heap.size ∧ W.cell? ⟨g, o + i, none⟩ = some (.int .i64 l[i]) := by
  obtain ⟨h1, _, _, h4⟩ := h
  have hn : n = l.length := by rw [h1]; simp [intsV]
  rcases h4 with h4 | ⟨g, o, rfl, hg, hc⟩
  · omega
  · exact ⟨g, o, rfl, hg, (hB.cell (p := ⟨g, o + i, none⟩) hg).trans (hc i _ (by simp [intsV, hi]))⟩
end Go.Proofs.Ytebkgkaihjoamaa
