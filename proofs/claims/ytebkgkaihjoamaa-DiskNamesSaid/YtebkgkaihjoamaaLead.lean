/- Turns of names, and the contract of disk's lead. -/
import Derived.Test.YtebkgkaihjoamaaOn
namespace Go.Proofs.Ytebkgkaihjoamaa
open Go.RowKit Go.Proofs Go.ChangeMaps

/-- what was done to names -/
inductive Turn where
  | make (s : ByteArray) (f : Nat)
  | move (a b : ByteArray)
  | drop (s : ByteArray)
def Turn.cells : Turn → List Value
  | .make s f => [.int .i64 0, .string s, .string ⟨#[]⟩, fptr f]
  | .move a b => [.int .i64 1, .string a, .string b, .pointer none]
  | .drop s => [.int .i64 2, .string s, .string ⟨#[]⟩, .pointer none]
/-- a text's key -/
abbrev skey (s : ByteArray) : Lit := .string s.data.toList
/-- no file -/
abbrev noFile : DataW Unit := .lit (.int .i64 (-1))
/-- a file -/
abbrev litF (f : Nat) : DataW Unit := .lit (.int .i64 (f : Nat))
open Classical in
noncomputable def Turn.lead : Turn → DataW Unit → DataW Unit
  | .make s f, D => D.put (skey s) (litF f)
  | .move a b, D => if fileOf D a.data.toList = noFile then D else (D.del (skey a)).put (skey b) (fileOf D a.data.toList)
  | .drop s, D => D.del (skey s)
def Turn.ok : Turn → Prop
  | .make s _ => s.size ≤ maxLen
  | .move a b => a.size ≤ maxLen ∧ b.size ≤ maxLen
  | .drop s => s.size ≤ maxLen

theorem turned_keeps {w w' : World} {N : Nat} (h : w.mapTurned w' N) : Keeps [N] w w' := by
  obtain ⟨es, cl, es', cl', hb, rfl⟩ := h
  exact ⟨rfl, rfl, rfl, by simp [setBlock], fun k hk hx => heap_setBlock_other hb _ (fun e => hx (by simp [e]))⟩
theorem lead_make {w : World} {N n : Nat} {D : DataW Unit} (h : NamesAt w N n D) (hn : n ≤ 1000000) (s : ByteArray) (f : Nat) (hs : s.size ≤ maxLen) :
    Calls Try.prog 38 #[.agg #[.int .i64 0, .string s, .string ⟨#[]⟩, fptr f], .map (some N)] w fun e w' => (∃ v, e = .returned v) ∧ NamesAt w' N (n + 1) (D.put (skey s) (litF f)) ∧ Keeps [N] w w' := by
  have k1 : Keeps [N] w (w.alloc (.cells #[.int .i64 0, .string s, .string ⟨#[]⟩, fptr f] 66)) := (Keeps.refl _ w).alloc _
  have hNW : NamesAt (w.alloc (.cells #[.int .i64 0, .string s, .string ⟨#[]⟩, fptr f] 66)) N n D := h.alloc _
  obtain ⟨w1, hr, h1, hg⟩ := World.ownsMap.update hNW key9 Try.underlying56 (by unfold maxLen; omega) (WideMaps.keyOf_string_mk Try.underlying9 hs) (Rp_ptr f)
  have HK : Hid (Keeps [N] w w1) := k1.grown hg (fun k e _ => by cases e; simp)
  have HN := Lib.hid h1
  clear h hNW h1 hg k1
  go_enter Try.func38, Try.ntmps38
  go_wp2
  go_end0
  exact ⟨⟨_, rfl⟩, HN.out, HK.out⟩
theorem lead_drop {w : World} {N n : Nat} {D : DataW Unit} (h : NamesAt w N n D) (s : ByteArray) (hs : s.size ≤ maxLen) :
    Calls Try.prog 38 #[.agg #[.int .i64 2, .string s, .string ⟨#[]⟩, .pointer none], .map (some N)] w fun e w' => (∃ v, e = .returned v) ∧ NamesAt w' N n (D.del (skey s)) ∧ Keeps [N] w w' := by
  have k1 : Keeps [N] w (w.alloc (.cells #[.int .i64 2, .string s, .string ⟨#[]⟩, .pointer none] 66)) := (Keeps.refl _ w).alloc _
  have hNW : NamesAt (w.alloc (.cells #[.int .i64 2, .string s, .string ⟨#[]⟩, .pointer none] 66)) N n D := h.alloc _
  obtain ⟨w1, hr, h1, hg⟩ := World.ownsMap.drop hNW key9 Try.underlying56 (WideMaps.keyOf_string_mk Try.underlying9 hs) 0
  have HK : Hid (Keeps [N] w w1) := k1.trans (turned_keeps hg)
  have HN := Lib.hid h1
  clear h hNW h1 hg k1
  go_enter Try.func38, Try.ntmps38
  go_wp2
  go_end0
  exact ⟨⟨_, rfl⟩, HN.out, HK.out⟩
theorem lead_none {w : World} {N n : Nat} {D : DataW Unit} (h : NamesAt w N n D) (a b : ByteArray) (ha : a.size ≤ maxLen) (hf : fileOf D a.data.toList = noFile) :
    Calls Try.prog 38 #[.agg #[.int .i64 1, .string a, .string b, .pointer none], .map (some N)] w fun e w' => (∃ v, e = .returned v) ∧ NamesAt w' N n D ∧ Keeps [N] w w' := by
  have HK : Hid (Keeps [N] w (w.alloc (.cells #[.int .i64 1, .string a, .string b, .pointer none] 66))) := (Keeps.refl _ w).alloc _
  have hNW : NamesAt (w.alloc (.cells #[.int .i64 1, .string a, .string b, .pointer none] 66)) N n D := h.alloc _
  have hr := hNW.miss a ha hf
  have HN := Lib.hid hNW
  clear h hNW hf
  go_enter Try.func38, Try.ntmps38
  go_wp2
  go_end0
  exact ⟨⟨_, rfl⟩, HN.out, HK.out⟩
theorem lead_move {w : World} {N n : Nat} {D : DataW Unit} (h : NamesAt w N n D) (hn : n ≤ 1000000) (a b : ByteArray) (ha : a.size ≤ maxLen) (hb : b.size ≤ maxLen) (f : Nat) (hf : fileOf D a.data.toList = litF f) :
    Calls Try.prog 38 #[.agg #[.int .i64 1, .string a, .string b, .pointer none], .map (some N)] w fun e w' => (∃ v, e = .returned v) ∧ NamesAt w' N (n + 1) ((D.del (skey a)).put (skey b) (litF f)) ∧ Keeps [N] w w' := by
  have k0 : Keeps [N] w (w.alloc (.cells #[.int .i64 1, .string a, .string b, .pointer none] 66)) := (Keeps.refl _ w).alloc _
  have hNW : NamesAt (w.alloc (.cells #[.int .i64 1, .string a, .string b, .pointer none] 66)) N n D := h.alloc _
  have hl := hNW.look a ha f hf
  have hbx := heap_alloc_new w (.cells #[.int .i64 1, .string a, .string b, .pointer none] 66)
  have hNl := World.ownsMap.lt h
  obtain ⟨w1, hr1, h1, hg1⟩ := World.ownsMap.drop hNW key9 Try.underlying56 (WideMaps.keyOf_string_mk Try.underlying9 ha) 0
  obtain ⟨w2, hr2, h2, hg2⟩ := World.ownsMap.update h1 key9 Try.underlying56 (by unfold maxLen; omega) (WideMaps.keyOf_string_mk Try.underlying9 hb) (Rp_ptr f)
  have k1 := turned_keeps hg1
  have hb1 : w1.heap[w.heap.size]? = some (.cells #[.int .i64 1, .string a, .string b, .pointer none] 66 (0, 0)) := (k1.block _ (by simp) (by simp; omega)).trans hbx
  have c2 : w1.cell? ⟨w.heap.size, 2, none⟩ = some (.string b) := by simp [World.cell?, hb1]
  have HK : Hid (Keeps [N] w w2) := (k0.trans k1).grown hg2 (fun k e _ => by cases e; simp)
  have HN := Lib.hid h2
  clear h hNW h1 h2 hg1 hg2 k1 k0 hb1 hbx hf
  go_enter Try.func38, Try.ntmps38
  go_wp2
  go_end0
  exact ⟨⟨_, rfl⟩, HN.out, HK.out⟩
/-- lead, of any turn -/
theorem lead_any {w : World} {N n : Nat} {D : DataW Unit} (h : NamesAt w N n D) (hn : n ≤ 1000000) (t : Turn) (ht : t.ok) :
    Calls Try.prog 38 #[.agg t.cells.toArray, .map (some N)] w fun e w' => (∃ v, e = .returned v) ∧ NamesAt w' N (n + 1) (t.lead D) ∧ Keeps [N] w w' := by
  cases t with
  | make s f => exact lead_make h hn s f ht
  | drop s => exact (lead_drop h s ht).mono fun e w' hp => ⟨hp.1, hp.2.1.mono (Nat.le_succ _), hp.2.2⟩
  | move a b =>
    have hz := zero62 w
    obtain ⟨v, ps, _, hv⟩ := World.ownsMap.lookup h key9 Try.underlying56 (zero62 w) Rp_nil (WideMaps.keyOf_string_mk Try.underlying9 ht.1)
    have hv' : Rp v = some (fileOf D a.data.toList, ps) := hv
    rcases Rp_inv hv' with ⟨_, h2⟩ | ⟨f, _, h2⟩
    · have h3 : fileOf D a.data.toList = noFile := (Prod.mk.inj h2).1
      have e : (Turn.move a b).lead D = D := by simp only [Turn.lead]; rw [if_pos h3]
      rw [e]
      exact (lead_none h a b ht.1 h3).mono fun e w' hp => ⟨hp.1, hp.2.1.mono (Nat.le_succ _), hp.2.2⟩
    · have h3 : fileOf D a.data.toList = litF f := (Prod.mk.inj h2).1
      have e : (Turn.move a b).lead D = (D.del (skey a)).put (skey b) (litF f) := by simp only [Turn.lead]; rw [if_neg (by rw [h3]; simp), h3]
      rw [e]
      exact lead_move h hn a b ht.1 ht.2 f h3
end Go.Proofs.Ytebkgkaihjoamaa
