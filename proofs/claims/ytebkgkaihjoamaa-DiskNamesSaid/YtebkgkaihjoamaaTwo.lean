/- Steps of a disk of few files, each with what it leaves. -/
import Derived.Test.YtebkgkaihjoamaaOneH
import Derived.Test.YtebkgkaihjoamaaTurnX
namespace Go.Proofs.Ytebkgkaihjoamaa
open Go.RowKit Go.Proofs

/-- a disk that answers: names nm, calls c -/
structure Good (S : St) (nm : DataW Unit) (c : Nat) : Prop where
  p : S.Plain
  nm : S.nm = nm
  c : S.c = c
  q : S.q = 1048576
theorem lead_move_eq {D : DataW Unit} {a b : ByteArray} {f : Nat} (h : fileOf D a.data.toList = litF f) : (Turn.move a b).lead D = (D.del (skey a)).put (skey b) (litF f) := by
  simp only [Turn.lead]
  rw [if_neg (by rw [h]; simp), h]
section
variable {base D : Nat} {w : World} {S : St} {nm : DataW Unit} {c : Nat}
/-- Create -/
theorem create_st (h : DX base w D S) (g : Good S nm c) (hc : c < 1000) (s : ByteArray) (hs : s.size ≤ maxLen) (ok : nameOk s = true) (hm : fileOf nm s.data.toList = noFile) (hn : Maps.size nm < 64) :
    Calls Try.prog 13 #[.pointer (some ⟨D, 0, none⟩), .string s] w fun e w' => e = .returned (.int .i64 0) ∧ Below base w w' ∧ ∃ f S', f ∉ S.fs ∧ DX base w' D S' ∧ Good S' (nm.put (skey s) (litF f)) (c + 1) ∧ S'.con f = ([], 0) ∧ S'.fs = S.fs ++ [f] ∧ S'.ls = S.ls ∧ S'.ts = S.ts ++ [.make s f] ∧ ∀ x ∈ S.fs, S'.con x = S.con x := by
  refine (create_dx h g.p (by rw [g.c]; omega) s hs ok (by rw [g.nm]; exact hm) (by rw [g.nm]; exact hn)).mono ?_
  rintro e w' ⟨rfl, hb, f, hf, h'⟩
  refine ⟨rfl, hb, f, _, hf, h', ⟨⟨g.p.dead, g.p.fl, g.p.st⟩, by show S.nm.put _ _ = _; rw [g.nm], by show S.c + 1 = _; rw [g.c], g.q⟩, by simp [St.made], rfl, rfl, rfl, fun x hx => ?_⟩
  have hne : x ≠ f := fun e1 => hf (by rw [← e1]; exact hx)
  simp only [St.made, hne, if_false]
/-- Append, where there is room -/
theorem append_st (h : DX base w D S) (g : Good S nm c) (hc : c < 1000) (s : ByteArray) (hs : s.size ≤ maxLen) (ok : nameOk s = true) (f : Nat) (hf : fileOf nm s.data.toList = litF f) (b : List UInt8) (last : Nat) (hcon : S.con f = (b, last)) (hu : S.used ≤ 500000)
    (src : Value) (l : List UInt8) (hsrc : Reads w src (cellsOf l)) (hrb : src.rowBlock ≠ some D) (hl : b.length + l.length ≤ 200000) :
    Calls Try.prog 23 #[.pointer (some ⟨D, 0, none⟩), .string s, src] w fun e w' => e = .returned (.int .i64 0) ∧ Below base w w' ∧ ∃ S', DX base w' D S' ∧ Good S' nm (c + 1) ∧ S'.con f = (b ++ l, last) ∧ S'.fs = S.fs ∧ S'.ls = S.ls ∧ S'.ts = S.ts ∧ ∀ x, x ≠ f → S'.con x = S.con x := by
  have hf' : fileOf S.nm s.data.toList = litF f := by rw [g.nm]; exact hf
  have hfs := h.vn.file hf'
  refine (append_dx (S1 := S.count) h s hs ok f hf' hfs src l hsrc hrb _ (handed_plain h g.p (by rw [g.c]; omega) _) g.p.dead (by show (S.con f).1.length + _ ≤ _; rw [hcon]; exact hl) (by show 0 ≤ S.q ∧ S.q ≤ 10000000; rw [g.q]; decide)).mono ?_
  rintro e w' ⟨v, rfl, hb, hor⟩
  have hu' : S.count.used ≤ 500000 := hu
  have hq' : S.count.q = 1048576 := g.q
  have hcon' : S.count.con f = (b, last) := hcon
  rw [hcon'] at hor
  rcases hor with ⟨h1, _⟩ | ⟨_, rfl, h3⟩
  · exfalso
    rw [hq'] at h1
    omega
  · refine ⟨rfl, hb, _, h3, ⟨⟨g.p.dead, g.p.fl, g.p.st⟩, g.nm, by show S.c + 1 = _; rw [g.c], g.q⟩, by simp [St.file], rfl, rfl, rfl, fun x hx => ?_⟩
    show (if x = f then _ else _) = _
    rw [if_neg hx]
    rfl
/-- Append, at a name that is not there -/
theorem append_none (h : DX base w D S) (g : Good S nm c) (hc : c < 1000) (s : ByteArray) (hs : s.size ≤ maxLen) (ok : nameOk s = true) (hf : fileOf nm s.data.toList = noFile) (pq : Option Addr) (m cq : Nat) :
    Calls Try.prog 23 #[.pointer (some ⟨D, 0, none⟩), .string s, .slice pq m cq] w fun e w' => e = .returned (.int .i64 11) ∧ Below base w w' ∧ ∃ S', DX base w' D S' ∧ Good S' nm (c + 1) ∧ S'.con = S.con ∧ S'.fs = S.fs ∧ S'.ls = S.ls ∧ S'.ts = S.ts := by
  refine (append_dx_miss (S1 := S.count) h s hs ok (by show fileOf S.nm _ = _; rw [g.nm]; exact hf) pq m cq _ (handed_plain h g.p (by rw [g.c]; omega) _) g.p.dead).mono ?_
  rintro e w' ⟨v, rfl, hb, rfl, h3⟩
  exact ⟨rfl, hb, _, h3, ⟨⟨g.p.dead, g.p.fl, g.p.st⟩, g.nm, by show S.c + 1 = _; rw [g.c], g.q⟩, rfl, rfl, rfl, rfl⟩
/-- Sync -/
theorem sync_st (h : DX base w D S) (g : Good S nm c) (hc : c < 1000) (s : ByteArray) (hs : s.size ≤ maxLen) (ok : nameOk s = true) (f : Nat) (hf : fileOf nm s.data.toList = litF f) :
    Calls Try.prog 24 #[.pointer (some ⟨D, 0, none⟩), .string s] w fun e w' => e = .returned (.int .i64 0) ∧ Below base w w' ∧ ∃ S', DX base w' D S' ∧ Good S' nm (c + 1) ∧ S'.con f = ((S.con f).1, (S.con f).1.length) ∧ S'.fs = S.fs ∧ S'.ls = S.ls ∧ S'.ts = S.ts ∧ ∀ x, x ≠ f → S'.con x = S.con x := by
  have hf' : fileOf S.nm s.data.toList = litF f := by rw [g.nm]; exact hf
  refine (sync_dx (S1 := S.count) h s hs ok f hf' (h.vn.file hf') _ (handed_plain h g.p (by rw [g.c]; omega) _) g.p.dead).mono ?_
  rintro e w' ⟨v, rfl, hb, rfl, h3⟩
  refine ⟨rfl, hb, _, h3, ⟨⟨g.p.dead, g.p.fl, g.p.st⟩, g.nm, by show S.c + 1 = _; rw [g.c], g.q⟩, by simp [St.file, St.count], rfl, rfl, rfl, fun x hx => ?_⟩
  show (if x = f then _ else _) = _
  rw [if_neg hx]
  rfl
/-- SyncDir -/
theorem syncdir_st (h : DX base w D S) (g : Good S nm c) (hc : c < 1000) :
    Calls Try.prog 14 #[.pointer (some ⟨D, 0, none⟩)] w fun e w' => e = .returned (.int .i64 0) ∧ Below base w w' ∧ ∃ S', DX base w' D S' ∧ Good S' nm (c + 1) ∧ S'.con = S.con ∧ S'.fs = S.fs ∧ S'.ls = nm ∧ S'.ts = [] := by
  refine (syncdir_dx (S1 := S.count) h _ (handed_plain h g.p (by rw [g.c]; omega) _)).mono ?_
  rintro e w' ⟨v, rfl, hb, rfl, h3⟩
  exact ⟨rfl, hb, _, h3, ⟨⟨g.p.dead, g.p.fl, g.p.st⟩, g.nm, by show S.c + 1 = _; rw [g.c], g.q⟩, rfl, rfl, g.nm, rfl⟩
/-- Rename -/
theorem rename_st (h : DX base w D S) (g : Good S nm c) (hc : c < 1000) (a b : ByteArray) (ha : a.size ≤ maxLen) (hb : b.size ≤ maxLen) (oka : nameOk a = true) (okb : nameOk b = true) (hab : a ≠ b) (f : Nat) (hf : fileOf nm a.data.toList = litF f) (hsz : Maps.size ((nm.del (skey a)).put (skey b) (litF f)) ≤ c + 1) :
    Calls Try.prog 26 #[.pointer (some ⟨D, 0, none⟩), .string a, .string b] w fun e w' => e = .returned (.int .i64 0) ∧ Below base w w' ∧ ∃ S', DX base w' D S' ∧ Good S' ((nm.del (skey a)).put (skey b) (litF f)) (c + 1) ∧ S'.con = S.con ∧ S'.fs = S.fs ∧ S'.ls = S.ls ∧ S'.ts = S.ts ++ [.move a b] := by
  have hf' : fileOf S.nm a.data.toList = litF f := by rw [g.nm]; exact hf
  have hle : (Turn.move a b).lead S.nm = (nm.del (skey a)).put (skey b) (litF f) := by rw [lead_move_eq hf', g.nm]
  have hsl := h.sl
  refine (rename_dx (S1 := S.count) h a b ha hb oka okb hab f hf' (by show Maps.size S.ls + S.ts.length + 1 ≤ S.c + 1; omega) (by show Maps.size ((Turn.move a b).lead S.nm) ≤ S.c + 1; rw [hle, g.c]; exact hsz) _ (handed_plain h g.p (by rw [g.c]; omega) _) g.p.dead).mono ?_
  rintro e w' ⟨v, rfl, hb, rfl, h3⟩
  exact ⟨rfl, hb, _, h3, ⟨⟨g.p.dead, g.p.fl, g.p.st⟩, hle, by show S.c + 1 = _; rw [g.c], g.q⟩, rfl, rfl, rfl, rfl⟩
theorem rename_self (h : DX base w D S) (g : Good S nm c) (hc : c < 1000) (a : ByteArray) (ha : a.size ≤ maxLen) (oka : nameOk a = true) (f : Nat) (hf : fileOf nm a.data.toList = litF f) :
    Calls Try.prog 26 #[.pointer (some ⟨D, 0, none⟩), .string a, .string a] w fun e w' => e = .returned (.int .i64 0) ∧ Below base w w' ∧ ∃ S', DX base w' D S' ∧ Good S' nm (c + 1) ∧ S'.con = S.con ∧ S'.fs = S.fs := by
  refine (rename_same (S1 := S.count) h a ha oka f (by show fileOf S.nm _ = _; rw [g.nm]; exact hf) _ (handed_plain h g.p (by rw [g.c]; omega) _) g.p.dead).mono ?_
  rintro e w' ⟨v, rfl, hb, rfl, h3⟩
  exact ⟨rfl, hb, _, h3, ⟨⟨g.p.dead, g.p.fl, g.p.st⟩, g.nm, by show S.c + 1 = _; rw [g.c], g.q⟩, rfl, rfl⟩
end
theorem Good.new : Good (St.new 1048576) (.map []) 0 := ⟨St.new_plain _, rfl, rfl, rfl⟩
end Go.Proofs.Ytebkgkaihjoamaa
