/- A disk with two files. -/
import Derived.Test.YtebkgkaihjoamaaKeepT
import Derived.Test.YtebkgkaihjoamaaMovesWalk
namespace Go.Proofs.Ytebkgkaihjoamaa
open Go.RowKit Go.Proofs

/-- two files under two names, of the bytes b and b' -/
structure QS (S : St) (s : ByteArray) (f : Nat) (b : List UInt8) (s' : ByteArray) (f' : Nat) (b' : List UInt8) (c q : Nat) : Prop where
  nm : S.nm = .map [(skey s, litF f), (skey s', litF f')] ∨ S.nm = .map [(skey s', litF f'), (skey s, litF f)]
  con : (S.con f).1 = b
  con' : (S.con f').1 = b'
  ne : f ≠ f'
  c : S.c ≤ c
  p : S.Plain
  qq : S.q = (q : Int)
  u : b.length + b'.length ≤ q
theorem QS.swap {S : St} {s s' : ByteArray} {f f' c q : Nat} {b b' : List UInt8} (h : QS S s f b s' f' b' c q) : QS S s' f' b' s f b c q := ⟨h.nm.symm, h.con', h.con, h.ne.symm, h.c, h.p, h.qq, by have := h.u; omega⟩
theorem QS.used {S : St} {s s' : ByteArray} {f f' c q : Nat} {b b' : List UInt8} (h : QS S s f b s' f' b' c q) : S.used = b.length + b'.length := by
  rcases h.nm with e | e
  · rw [used_two e, h.con, h.con']
  · rw [used_two e, h.con, h.con']; omega
/-- the two names, which are not alike -/
def Two (s s' : ByteArray) : Prop := (∀ f f' : Nat, fileOf (.map [(skey s, litF f), (skey s', litF f')]) s.data.toList = litF f ∧ fileOf (.map [(skey s', litF f'), (skey s, litF f)]) s.data.toList = litF f) ∧
  (∀ f f' : Nat, (DataW.map [(skey s, litF f), (skey s', litF f')] : DataW Unit).del (skey s) = .map [(skey s', litF f')] ∧ (DataW.map [(skey s', litF f'), (skey s, litF f)] : DataW Unit).del (skey s) = .map [(skey s', litF f')]) ∧
  (∀ f' : Nat, fileOf (.map [(skey s', litF f')]) s.data.toList = noFile) ∧ ∀ f f' : Nat, (DataW.map [(skey s', litF f')] : DataW Unit).put (skey s) (litF f) = .map [(skey s, litF f), (skey s', litF f')] ∨ (DataW.map [(skey s', litF f')] : DataW Unit).put (skey s) (litF f) = .map [(skey s', litF f'), (skey s, litF f)]
abbrev ta : ByteArray := ⟨#[97]⟩
abbrev tb : ByteArray := ⟨#[98]⟩
theorem two_ab : Two ta tb := ⟨fun _ _ => ⟨rfl, rfl⟩, fun _ _ => ⟨rfl, rfl⟩, fun _ => rfl, fun _ _ => by first | exact .inl rfl | exact .inr rfl⟩
theorem two_ba : Two tb ta := ⟨fun _ _ => ⟨rfl, rfl⟩, fun _ _ => ⟨rfl, rfl⟩, fun _ => rfl, fun _ _ => by first | exact .inl rfl | exact .inr rfl⟩
section
variable {base D : Nat} {w : World} {S : St} {s s' : ByteArray} {f f' c q : Nat} {b b' : List UInt8}
theorem QS.file (h : QS S s f b s' f' b' c q) (t : Two s s') : fileOf S.nm s.data.toList = litF f := by
  rcases h.nm with e | e
  · rw [e]; exact (t.1 f f').1
  · rw [e]; exact (t.1 f f').2
/-- Append of one of the two -/
theorem append_q (h : DX base w D S) (g : QS S s f b s' f' b' c q) (t : Two s s') (hc : c < 1000) (hq : q ≤ 511) (hs : s.size ≤ maxLen) (ok : nameOk s = true) (src : Value) (l : List UInt8) (hsrc : Reads w src (cellsOf l)) (hrb : src.rowBlock ≠ some D) (hl : l.length ≤ 100) :
    Calls Try.prog 23 #[.pointer (some ⟨D, 0, none⟩), .string s, src] w fun e w' => (Below base w w' ∧ KeepT w w') ∧
      ((q < b.length + b'.length + l.length ∧ e = .returned (.int .i64 15) ∧ ∃ S', DX base w' D S' ∧ QS S' s f b s' f' b' (c + 1) q) ∨ (b.length + b'.length + l.length ≤ q ∧ e = .returned (.int .i64 0) ∧ ∃ S', DX base w' D S' ∧ QS S' s f (b ++ l) s' f' b' (c + 1) q)) := by
  have hfs := h.vn.file (g.file t)
  have hu := g.used
  have hgu := g.u
  refine (append_dxK (S1 := S.count) h s hs ok f (g.file t) hfs src l hsrc hrb _ (handed_plain h g.p (by have := g.c; omega) _) g.p.dead (by show (S.con f).1.length + _ ≤ _; rw [g.con]; omega) (by show 0 ≤ S.q ∧ S.q ≤ 10000000; rw [g.qq]; omega)).mono ?_
  rintro e w' ⟨v, rfl, ⟨hb, hor⟩, hk⟩
  refine ⟨⟨hb, hk⟩, ?_⟩
  have hu' : S.count.used = b.length + b'.length := hu
  have hq' : S.count.q = (q : Int) := g.qq
  have hcon' : (S.count.con f).1 = b := g.con
  rw [hu', hq', hcon'] at hor
  rcases hor with ⟨h1, rfl, h2⟩ | ⟨h1, rfl, h2⟩
  · exact .inl ⟨by omega, rfl, _, h2, ⟨g.nm, g.con, g.con', g.ne, by show S.c + 1 ≤ _; have := g.c; omega, ⟨g.p.dead, g.p.fl, g.p.st⟩, g.qq, g.u⟩⟩
  · refine .inr ⟨by omega, rfl, _, h2, ⟨g.nm, by simp [St.file], ?_, g.ne, by show S.c + 1 ≤ _; have := g.c; omega, ⟨g.p.dead, g.p.fl, g.p.st⟩, g.qq, by rw [List.length_append]; omega⟩⟩
    show (if f' = f then _ else S.con f').1 = _
    rw [if_neg g.ne.symm]
    exact g.con'
/-- what stands between Remove and Create -/
structure QH (S : St) (s' : ByteArray) (f' : Nat) (b' : List UInt8) (c q : Nat) : Prop where
  nm : S.nm = .map [(skey s', litF f')]
  con' : (S.con f').1 = b'
  c : S.c ≤ c
  p : S.Plain
  qq : S.q = (q : Int)
  u : b'.length ≤ q
theorem remove_q (h : DX base w D S) (g : QS S s f b s' f' b' c q) (t : Two s s') (hc : c < 1000) (hs : s.size ≤ maxLen) (ok : nameOk s = true) :
    Calls Try.prog 25 #[.pointer (some ⟨D, 0, none⟩), .string s] w fun e w' => e = .returned (.int .i64 0) ∧ (Below base w w' ∧ KeepT w w') ∧ ∃ S', DX base w' D S' ∧ QH S' s' f' b' (c + 1) q := by
  have hsl := h.sl
  have hgu := g.u
  refine (remove_dxK (S1 := S.count) h s hs ok f (g.file t) (by show Maps.size S.ls + S.ts.length + 1 ≤ S.c + 1; omega) _ (handed_plain h g.p (by have := g.c; omega) _) g.p.dead).mono ?_
  rintro e w' ⟨v, rfl, ⟨hb, rfl, h2⟩, hk⟩
  refine ⟨rfl, ⟨hb, hk⟩, _, h2, ⟨?_, g.con', by show S.c + 1 ≤ _; have := g.c; omega, ⟨g.p.dead, g.p.fl, g.p.st⟩, g.qq, by omega⟩⟩
  show S.nm.del (skey s) = _
  rcases g.nm with e | e
  · rw [e]; exact (t.2.1 f f').1
  · rw [e]; exact (t.2.1 f f').2
theorem create_q (h : DX base w D S) (g : QH S s' f' b' c q) (t : Two s s') (hc : c < 1000) (hs : s.size ≤ maxLen) (ok : nameOk s = true) :
    Calls Try.prog 13 #[.pointer (some ⟨D, 0, none⟩), .string s] w fun e w' => e = .returned (.int .i64 0) ∧ (Below base w w' ∧ KeepT w w') ∧ ∃ f S', DX base w' D S' ∧ QS S' s f [] s' f' b' (c + 1) q := by
  have hf' : f' ∈ S.fs := by
    obtain ⟨es, he, hl⟩ := h.vn
    rw [g.nm] at he
    cases he
    obtain ⟨x, hx, e⟩ := hl _ (List.mem_singleton.2 rfl)
    simp at e
    obtain rfl : f' = x := by omega
    exact hx
  refine (create_dxK h g.p (by have := g.c; omega) s hs ok (by rw [g.nm]; exact t.2.2.1 f') (by rw [g.nm]; simp [Maps.size])).mono ?_
  rintro e w' ⟨rfl, hb, f, hf, h2⟩
  have hne : f ≠ f' := fun e => hf (by rw [e]; exact hf')
  refine ⟨rfl, hb, f, _, h2, ⟨?_, by simp [St.made], ?_, hne, by show S.c + 1 ≤ _; have := g.c; omega, ⟨g.p.dead, g.p.fl, g.p.st⟩, g.qq, by have := g.u; simpa using this⟩⟩
  · show S.nm.put (skey s) (litF f) = _ ∨ S.nm.put (skey s) (litF f) = _
    rw [g.nm]
    exact t.2.2.2 f f'
  · show (if f' = f then _ else S.con f').1 = _
    rw [if_neg hne.symm]
    exact g.con'
end
end Go.Proofs.Ytebkgkaihjoamaa
