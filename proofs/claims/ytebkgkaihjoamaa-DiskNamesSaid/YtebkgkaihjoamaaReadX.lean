/- Read, Size, Used, Remove, Rename, Calls, Dead in the words of the disk's state. -/
import Derived.Test.YtebkgkaihjoamaaAppX
import Derived.Test.YtebkgkaihjoamaaTurns
import Derived.Test.YtebkgkaihjoamaaRen
import Derived.Test.YtebkgkaihjoamaaCrash
namespace Go.Proofs.Ytebkgkaihjoamaa
open Go.RowKit Go.Proofs

section
variable {base D : Nat} {w : World} {S : St}
theorem read_dx (h : DX base w D S) (hdead : S.dead = false) (s : ByteArray) (hs : s.size ≤ maxLen) (ok : nameOk s = true) (f : Nat) (hf : fileOf S.nm s.data.toList = litF f) (a n : Nat) :
    Calls Try.prog 21 #[.pointer (some ⟨D, 0, none⟩), .string s, .int .i64 a, .int .i64 n] w fun e w' => ∃ v', e = .returned (.tuple #[v', .int .i64 0]) ∧ Reads w' v' (cellsOf (((S.con f).1.drop a).take n)) ∧ Keeps [] w w' := by
  have hfs := h.vn.file hf
  obtain ⟨v, h1, h2, _⟩ := h.cells hfs
  obtain ⟨vf, N, L, vt, nn, nl, vb, hA⟩ := h.at_
  have hd := hA.d
  rw [hdead] at hd
  have e : cellsOf (((S.con f).1.drop a).take n) = ((cellsOf (S.con f).1).drop a).take n := by simp [cellsOf, List.map_drop, List.map_take]
  rw [e]
  exact read_hit hd hA.n s hs ok f hf base v _ _ _ h1 h2 (by have := (h.bl f hfs).2; omega) a n (cellsOf_one _)
theorem read_dx_neg (h : DX base w D S) (hdead : S.dead = false) (s : ByteArray) (hs : s.size ≤ maxLen) (ok : nameOk s = true) (f : Nat) (hf : fileOf S.nm s.data.toList = litF f) (a n : Int) (hneg : a < 0 ∨ n < 0) :
    Calls Try.prog 21 #[.pointer (some ⟨D, 0, none⟩), .string s, .int .i64 a, .int .i64 n] w fun e w' => e = .returned (.tuple #[.slice none 0 0, .int .i64 1]) ∧ w = w' := by
  obtain ⟨vf, N, L, vt, nn, nl, vb, hA⟩ := h.at_
  have hd := hA.d
  rw [hdead] at hd
  exact read_neg hd hA.n s hs ok f hf a n hneg
theorem read_dx_miss (h : DX base w D S) (hdead : S.dead = false) (s : ByteArray) (hs : s.size ≤ maxLen) (ok : nameOk s = true) (hf : fileOf S.nm s.data.toList = noFile) (a n : Int) :
    Calls Try.prog 21 #[.pointer (some ⟨D, 0, none⟩), .string s, .int .i64 a, .int .i64 n] w fun e w' => e = .returned (.tuple #[.slice none 0 0, .int .i64 11]) ∧ w = w' := by
  obtain ⟨vf, N, L, vt, nn, nl, vb, hA⟩ := h.at_
  have hd := hA.d
  rw [hdead] at hd
  exact read_miss hd hA.n s hs ok hf a n
theorem size_dx (h : DX base w D S) (hdead : S.dead = false) (s : ByteArray) (hs : s.size ≤ maxLen) (ok : nameOk s = true) (f : Nat) (hf : fileOf S.nm s.data.toList = litF f) :
    Calls Try.prog 22 #[.pointer (some ⟨D, 0, none⟩), .string s] w fun e w' => e = .returned (.tuple #[.int .i64 ((S.con f).1.length : Nat), .int .i64 0]) ∧ w = w' := by
  have hfs := h.vn.file hf
  obtain ⟨v, h1, h2, _⟩ := h.cells hfs
  obtain ⟨p, c, rfl⟩ := ownsRow_slice h2
  obtain ⟨vf, N, L, vt, nn, nl, vb, hA⟩ := h.at_
  have hd := hA.d
  rw [hdead] at hd
  exact size_hit hd hA.n s hs ok f hf p _ c (by simp [World.cell?, h1])
theorem size_dx_miss (h : DX base w D S) (hdead : S.dead = false) (s : ByteArray) (hs : s.size ≤ maxLen) (ok : nameOk s = true) (hf : fileOf S.nm s.data.toList = noFile) :
    Calls Try.prog 22 #[.pointer (some ⟨D, 0, none⟩), .string s] w fun e w' => e = .returned (.tuple #[.int .i64 0, .int .i64 11]) ∧ w = w' := by
  obtain ⟨vf, N, L, vt, nn, nl, vb, hA⟩ := h.at_
  have hd := hA.d
  rw [hdead] at hd
  exact size_miss hd hA.n s hs ok hf
theorem size_bad (s : ByteArray) (hs : s.size ≤ maxLen) (ok : nameOk s = false) :
    Calls Try.prog 22 #[.pointer (some ⟨D, 0, none⟩), .string s] w fun e w' => e = .returned (.tuple #[.int .i64 0, .int .i64 10]) ∧ w = w' := by
  have HA := Lib.hid (ask_bad (w := w) (D := D) s hs ok)
  go_enter Try.func22, Try.ntmps22
  go_wp2_with (go_at_call 44; (with_reducible refine HA.out.mono ?_); rintro e w' ⟨rfl, rfl⟩)
  go_ret2
  exact ⟨rfl, rfl⟩
theorem calls_dx (h : DX base w D S) : Calls Try.prog 19 #[.pointer (some ⟨D, 0, none⟩)] w fun e w' => e = .returned (.int .i64 S.c) ∧ w = w' := by
  obtain ⟨vf, N, L, vt, nn, nl, vb, hA⟩ := h.at_
  exact calls_any hA.d
theorem dead_dx (h : DX base w D S) : Calls Try.prog 29 #[.pointer (some ⟨D, 0, none⟩)] w fun e w' => e = .returned (.bool S.dead) ∧ w = w' := by
  obtain ⟨vf, N, L, vt, nn, nl, vb, hA⟩ := h.at_
  exact dead_any hA.d
theorem used_dx (h : DX base w D S) (hdead : S.dead = false) : Calls Try.prog 30 #[.pointer (some ⟨D, 0, none⟩)] w fun e w' => e = .returned (.int .i64 (S.used : Nat)) ∧ Keeps [] w w' := by
  obtain ⟨es, he, hl⟩ := h.vn
  obtain ⟨vf, N, L, vt, nn, nl, vb, ha⟩ := h.at_
  have hd := ha.d
  have hn := ha.n
  rw [hdead] at hd
  rw [he] at hn
  have hu := h.used_le
  have hue : S.used = sumLeft es (fun _ => true) (lenD fun f => (S.con f).1.length) := by unfold St.used sumD; rw [he]
  rw [hue] at hu ⊢
  exact used_any hd hn (fun f => (S.con f).1.length) (fun p hp => by
    obtain ⟨g, hg, e⟩ := hl p hp
    obtain ⟨v', a1, a2, _⟩ := h.cells hg
    obtain ⟨pv, cap, rfl⟩ := ownsRow_slice a2
    exact ⟨g, e, (Array.getElem?_eq_some_iff.1 a1).1, pv, cap, by simp [World.cell?, a1]⟩) hu
end

/-- a turn was done, and kept -/
noncomputable def St.turned (S : St) (t : Turn) : St := { S with nm := t.lead S.nm, ts := S.ts ++ [t] }
theorem DX.turned {base D : Nat} {w w' : World} {S : St} (h : DX base w D S) (t : Turn) (ht : t.ok) (hf : ∀ s f, t = .make s f → f ∈ S.fs) (hsz : Maps.size (t.lead S.nm) ≤ S.c) (hsl : Maps.size S.ls + S.ts.length + 1 ≤ S.c)
    (hk : ∀ vf N L vt nn nl vb, DAt base w D S.q S.c S.st S.fl S.fe S.dead S.fs S.nm S.ls S.ts.length (S.ts.flatMap Turn.cells) (fun f => ((S.con f).1.map UInt8.toNat, (S.con f).2)) vf N L vt nn nl vb →
      ∃ vt' nn', DiskIs w' D S.q S.c S.st S.fl S.fe S.dead vf N L vt' ∧ NamesAt w' N nn' (t.lead S.nm) ∧ w'.ownsRow base 66 4 vt' (S.ts.length + 1) (S.ts.flatMap Turn.cells ++ t.cells) ∧ Keeps (D :: N :: vt.ownBlock.toList) w w') : DX base w' D (S.turned t) := by
  obtain ⟨vf, N, L, vt, nn, nl, vb, h1⟩ := h.at_
  obtain ⟨vt', nn', d, n, r, k⟩ := hk _ _ _ _ _ _ _ h1
  have hX : ∀ j, j ≠ D → j ≠ N → vt.ownBlock ≠ some j → j ∉ D :: N :: vt.ownBlock.toList := fun j a1 a2 a3 hj => by
    simp only [List.mem_cons, Option.mem_toList] at hj
    rcases hj with hj | hj | hj
    · exact a1 hj
    · exact a2 hj
    · exact a3 hj
  have e1 : (S.ts ++ [t]).length = S.ts.length + 1 := by simp
  have e2 : (S.ts ++ [t]).flatMap Turn.cells = S.ts.flatMap Turn.cells ++ t.cells := by simp
  refine ⟨⟨vf, N, L, vt', nn', nl, vb, ⟨d, k.row h1.rf fun j hj => hX j (fun e => own_ne h1.rf h1.d (by decide) (e ▸ hj)) (fun e => map_own_ne h1.n h1.rf (e ▸ hj)) (own_own_ne h1.rf h1.rt (by decide) hj), ?_, n, k.names h1.l (hX L (map_ne h1.l h1.d) h1.ne.symm (map_own_ne h1.l h1.rt)), h1.ne, h1.bD, h1.bN, h1.bL, Nat.le_trans h1.bw k.size, fun f hff => ?_, h1.nd, h1.ap⟩⟩, h.vn.lead t hf, h.vl, ?_, h.bl, h.sf, hsz, ?_, h.sc⟩
  · show w'.ownsRow base 66 4 vt' (S.ts ++ [t]).length ((S.ts ++ [t]).flatMap Turn.cells)
    rw [e1, e2]
    exact r
  · obtain ⟨a1, a2, a3⟩ := h1.f f hff
    exact ⟨a1, (k.block f (Array.getElem?_eq_some_iff.1 a2).1 (hX f (cells_ne a2 h1.d (by decide)) (map_ne h1.n a2).symm fun e => own_ne h1.rt a2 (by decide) e)).trans a2, k.row a3 fun j hj => hX j (fun e => own_ne a3 h1.d (by decide) (e ▸ hj)) (fun e => map_own_ne h1.n a3 (e ▸ hj)) (own_own_ne a3 h1.rt (by decide) hj)⟩
  · intro t' ht'
    rcases List.mem_append.1 ht' with h' | h'
    · exact h.vt t' h'
    · obtain rfl := List.mem_singleton.1 h'
      exact ⟨ht, hf⟩
  · show Maps.size S.ls + (S.ts ++ [t]).length ≤ S.c
    rw [e1]; omega
end Go.Proofs.Ytebkgkaihjoamaa
