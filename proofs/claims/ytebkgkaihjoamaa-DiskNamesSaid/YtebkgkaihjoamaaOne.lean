/- A disk with one file; strings and bytes. -/
import Derived.Test.YtebkgkaihjoamaaAwake
namespace Go.Proofs.Ytebkgkaihjoamaa
open Go.RowKit Go.Proofs

/-- the world, the value of '[]byte(s)' -/
def convW (w : World) (s : ByteArray) : World := w.drew.alloc (.cells (bytesRow s (grownCap w s.size 0 5)) 5 ((bytesRow s (grownCap w s.size 0 5)).size, (bytesRow s (grownCap w s.size 0 5)).size + 1))
def convV (w : World) (s : ByteArray) : Value := .slice (some ⟨w.heap.size, 0, none⟩) s.size (grownCap w s.size 0 5)
theorem conv_run (w : World) (s : ByteArray) : (convert 9 29 (.string s)).run Try.prog w = .ok (convV w s) (convW w s) := run_bytes_of_string w 9 29 5 s Try.underlying9 Try.underlying29 Try.underlying5
theorem conv_keeps (w : World) (s : ByteArray) : Keeps [] w (convW w s) := ((Keeps.refl [] w).drew).alloc _
theorem conv_block (w : World) (s : ByteArray) : (convV w s).rowBlock = some w.heap.size := rfl
theorem conv_reads (w : World) (s : ByteArray) : Reads (convW w s) (convV w s) (cellsOf s.data.toList) := by
  refine .inr ⟨w.heap.size, 0, grownCap w s.size 0 5, by show Value.slice _ s.size _ = Value.slice _ (cellsOf s.data.toList).length _; rw [show (cellsOf s.data.toList).length = s.size from by simp [cellsOf]], by simp [convW], fun j u hj => ?_⟩
  have hl : j < s.data.size := by
    have := (List.getElem?_eq_some_iff.1 hj).1
    simpa [cellsOf] using this
  have h1 := World.cell?_alloc_mark w.drew (bytesRow s (grownCap w s.size 0 5)) 5 ((bytesRow s (grownCap w s.size 0 5)).size, (bytesRow s (grownCap w s.size 0 5)).size + 1) j
  rw [show ((⟨w.heap.size, 0, none⟩ : Addr).add j) = ⟨w.heap.size, j, none⟩ from by cases j <;> simp [Addr.add]]
  refine h1.trans ?_
  rw [bytesRow_at s _ j hl]
  simp [cellsOf] at hj
  obtain ⟨x, hx, rfl⟩ := hj
  rw [Array.getElem?_eq_getElem hl] at hx
  cases hx
  rfl

/-- the disk's one file -/
structure One (S : St) (s : ByteArray) (f : Nat) (b : List UInt8) (last : Nat) : Prop where
  nm : S.nm = .map [(skey s, litF f)]
  fs : S.fs = [f]
  con : S.con f = (b, last)
theorem One.used {S : St} {s : ByteArray} {f last : Nat} {b : List UInt8} (o : One S s f b last) : S.used = b.length := by
  unfold St.used
  rw [o.nm, sumD_one, o.con]
theorem fileOf_one (s : ByteArray) (f : Nat) : fileOf (.map [(skey s, litF f)]) s.data.toList = litF f := by
  unfold fileOf DataW.atKey
  have : (skey s).sameKey (.string s.data.toList) = true := by simp [Lit.sameKey]
  simp [this]
theorem fileOf_other (s t : ByteArray) (f : Nat) (h : s.data.toList ≠ t.data.toList) : fileOf (.map [(skey s, litF f)]) t.data.toList = noFile := by
  unfold fileOf DataW.atKey
  have : (skey s).sameKey (.string t.data.toList) = false := by
    cases hs : (skey s).sameKey (.string t.data.toList)
    · rfl
    · have := WideAt.sameKey_eq hs
      simp at this
      exact absurd (congrArg Array.toList this) h
  simp [this]
theorem One.file {S : St} {s : ByteArray} {f last : Nat} {b : List UInt8} (o : One S s f b last) : fileOf S.nm s.data.toList = litF f := by rw [o.nm]; exact fileOf_one s f
theorem One.put {S : St} {s : ByteArray} {f last : Nat} {b : List UInt8} (o : One S s f b last) (b' : List UInt8) (last' : Nat) : One (S.count.file f b' last') s f b' last' := ⟨o.nm, o.fs, by simp [St.file]⟩
theorem One.new (q : Int) (s : ByteArray) (f : Nat) : One ((St.new q).made s f) s f [] 0 := ⟨rfl, rfl, by simp [St.made]⟩
theorem Plain.put {S : St} (p : S.Plain) (f : Nat) (b : List UInt8) (last : Nat) : (S.count.file f b last).Plain := ⟨p.dead, p.fl, p.st⟩
theorem Plain.new (q : Int) (s : ByteArray) (f : Nat) : ((St.new q).made s f).Plain := ⟨rfl, rfl, by simp [St.made, St.new]⟩

section
variable {base D : Nat} {w : World} {S : St} {s : ByteArray} {f last : Nat} {b : List UInt8}
/-- Append to the one file, where there is room -/
theorem append_one (h : DX base w D S) (o : One S s f b last) (p : S.Plain) (hc : S.c < 4000) (hq : S.q = 1048576) (hs : s.size ≤ maxLen) (ok : nameOk s = true) (src : Value) (l : List UInt8) (hsrc : Reads w src (cellsOf l)) (hrb : src.rowBlock ≠ some D) (hl : b.length + l.length ≤ 200000) :
    Calls Try.prog 23 #[.pointer (some ⟨D, 0, none⟩), .string s, src] w fun e w' => e = .returned (.int .i64 0) ∧ Below base w w' ∧ DX base w' D (S.count.file f (b ++ l) last) := by
  have hcon : S.count.con f = (b, last) := o.con
  refine (append_dx (S1 := S.count) h s hs ok f o.file (by show f ∈ S.fs; rw [o.fs]; simp) src l hsrc hrb _ (handed_plain h p hc _) p.dead (by rw [hcon]; exact hl) (by show 0 ≤ S.q ∧ S.q ≤ 10000000; rw [hq]; decide)).mono ?_
  rintro e w' ⟨v, rfl, hb, hor⟩
  have hu : S.count.used = b.length := o.used
  rw [hcon] at hor
  have hq' : S.count.q = 1048576 := hq
  rcases hor with ⟨h1, _⟩ | ⟨_, rfl, h3⟩
  · exfalso
    rw [hu, hq'] at h1
    omega
  · exact ⟨rfl, hb, h3⟩
end
end Go.Proofs.Ytebkgkaihjoamaa
