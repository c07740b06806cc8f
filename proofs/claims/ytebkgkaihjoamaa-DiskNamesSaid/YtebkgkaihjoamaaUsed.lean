/- The contract of disk.Disk's Used: the bytes of all files that have names. -/
import Derived.Test.YtebkgkaihjoamaaAsk
import Derived.Test.YtebkgkaihjoamaaCreate
import Derived.Maps.RangeWalk
import Derived.Sort.KeysCollected
namespace Go.Proofs.Ytebkgkaihjoamaa
open Go.RowKit Go.Proofs

/-- a name's element, by what it leads to -/
def mkV : Option Nat → Value
  | none => .pointer none
  | some f => fptr f
theorem mkV_inv (v : Value) (y : DataW Unit × List MemPlace) (h : Rp v = some y) : ∃ c, v = mkV c := by
  rcases Rp_inv h with ⟨rfl, _⟩ | ⟨f, rfl, _⟩
  · exact ⟨none, rfl⟩
  · exact ⟨some f, rfl⟩
theorem mkK_inv (key : Value) (kl : Lit) (h : keyOf Try.prog 9 key = some kl) : ∃ x : ByteArray, key = .string x := Maps.keyOf_string_inv Try.underlying9 h
/-- the sum over the entries that are left -/
def sumLeft (es : List (Lit × DataW Unit)) (left : Lit → Bool) (len : DataW Unit → Nat) : Nat := ((es.filter fun p => left p.1).map fun p => len p.2).sum
theorem sumLeft_none (es : List (Lit × DataW Unit)) (left : Lit → Bool) (len : DataW Unit → Nat) (h : ∀ kl, left kl = false) : sumLeft es left len = 0 := by
  unfold sumLeft
  rw [List.filter_eq_nil_iff.2 fun p _ => by simp [h]]; rfl
theorem sumLeft_strike (len : DataW Unit → Nat) (kl : Lit) (v : DataW Unit) (left : Lit → Bool) (hl : left kl = true) : ∀ (es : List (Lit × DataW Unit)), es.Pairwise (fun p q => p.1.sameKey q.1 = false) → (∀ p ∈ es, p.1.sameKey p.1 = true) →
    (∀ p ∈ es, p.1.sameKey kl = true → p = (kl, v)) → (kl, v) ∈ es → sumLeft es left len = sumLeft es (fun z => left z && !z.sameKey kl) len + len v
  | [], _, _, _, hm => by simp at hm
  | p :: es, hp, hr, hk, hm => by
    obtain ⟨h1, h2⟩ := List.pairwise_cons.1 hp
    by_cases hs : p.1.sameKey kl = true
    · have e := hk p (by simp) hs
      subst e
      have hrest : es.filter (fun q => left q.1) = es.filter (fun q => left q.1 && !q.1.sameKey kl) := by
        apply List.filter_congr
        intro q hq
        cases hqk : q.1.sameKey kl
        · simp
        · have := hk q (by simp [hq]) hqk
          have h3 := h1 q hq
          rw [this] at h3
          rw [hr (kl, v) (by simp)] at h3
          cases h3
      unfold sumLeft
      rw [List.filter_cons, if_pos (by simpa using hl), List.filter_cons, if_neg (by simp [hs])]
      rw [List.map_cons, List.sum_cons, hrest]
      exact Nat.add_comm _ _
    · have hm' : (kl, v) ∈ es := by
        rcases List.mem_cons.1 hm with e | e
        · subst e; exact absurd (hr (kl, v) (by simp)) hs
        · exact e
      have ih := sumLeft_strike len kl v left hl es h2 (fun q hq => hr q (by simp [hq])) (fun q hq => hk q (by simp [hq])) hm'
      unfold sumLeft at ih ⊢
      have hs' : p.1.sameKey kl = false := by simpa using hs
      rw [List.filter_cons, List.filter_cons]
      cases hpl : left p.1
      · simp [hs', hpl] at ih ⊢
        exact ih
      · simp [hs', hpl] at ih ⊢
        omega

theorem entry_in (es : List (Lit × DataW Unit)) (kl : Lit) (y : DataW Unit) (h : ∀ zd, (DataW.map es).atKey kl zd = y) : (kl, y) ∈ es := by
  unfold DataW.atKey at h
  simp only at h
  cases hf : es.find? (fun p => p.1.sameKey kl) with
  | none =>
    rw [hf] at h
    have h1 := h (.lit (.int .i64 0))
    have h2 := h (.lit (.int .i64 1))
    rw [← h1] at h2
    simp at h2
  | some p =>
    rw [hf] at h
    have h1 : p.2 = y := h .nil
    have h2 := List.mem_of_find?_eq_some hf
    have h3 := WideAt.sameKey_eq (show p.1.sameKey kl = true by have := List.find?_some hf; simpa using this)
    rw [← h1, ← h3]
    exact h2
/-- the length that a name's element has -/
def lenD (len : Nat → Nat) : DataW Unit → Nat
  | .lit (.int _ z) => len z.toNat
  | _ => 0

set_option maxRecDepth 100000 in
set_option maxHeartbeats 1000000 in
theorem used_any {w : World} {D : Nat} {q c st fl fe : Int} {vf : Value} {N L n : Nat} {vt : Value} {es : List (Lit × DataW Unit)} (hD : DiskIs w D q c st fl fe false vf N L vt) (hN : NamesAt w N n (.map es)) (len : Nat → Nat)
    (hall : ∀ p ∈ es, ∃ f : Nat, p.2 = .lit (.int .i64 (f : Nat)) ∧ f < w.heap.size ∧ ∃ pv cap, w.cell? ⟨f, 0, none⟩ = some (.slice pv (len f) cap)) (hbd : sumLeft es (fun _ => true) (lenD len) ≤ 1000000000) :
    Calls Try.prog 30 #[.pointer (some ⟨D, 0, none⟩)] w fun e w' => e = .returned (.int .i64 (sumLeft es (fun _ => true) (lenD len) : Nat)) ∧ Keeps [] w w' := by
  have c5 : w.cell? ⟨D, 5, none⟩ = some (.bool false) := hD.cell 5 _ rfl
  have c7 : w.cell? ⟨D, 7, none⟩ = some (.map (some N)) := hD.cell 7 _ rfl
  obtain ⟨es', he, hpw, hkl⟩ := World.ownsMap.entries hN key9
  cases he
  have HN := Lib.hid hN
  have HA := Lib.hid hall
  have hp1 : es.Pairwise (fun p q => p.1.sameKey q.1 = false) := hpw.imp fun {a b} h => by
    cases hs : a.1.sameKey b.1
    · rfl
    · exact absurd (WideAt.sameKey_eq hs) h
  have HS := Lib.hid (fun kl v left hl hm => sumLeft_strike (lenD len) kl v left hl es hp1 (fun p hp => WideAt.sameKey_self (hkl p hp)) (fun p hp hs => by
    have h1 := WideAt.sameKey_eq hs
    rcases List.mem_iff_getElem?.1 hp with ⟨i, hi⟩
    rcases List.mem_iff_getElem?.1 hm with ⟨j, hj⟩
    have hpw' := List.pairwise_iff_getElem.1 hpw
    obtain ⟨hi1, hi2⟩ := List.getElem?_eq_some_iff.1 hi
    obtain ⟨hj1, hj2⟩ := List.getElem?_eq_some_iff.1 hj
    rcases Nat.lt_trichotomy i j with hl | hl | hl
    · exact absurd (by rw [hi2, hj2]; exact h1) (hpw' i j hi1 hj1 hl)
    · subst hl; rw [hi2] at hj2; exact hj2
    · exact absurd (by rw [hi2, hj2]; exact h1.symm) (hpw' j i hj1 hi1 hl)) hm)
  have HZ := Lib.hid (fun left h => sumLeft_none es left (lenD len) h)
  have HHas : Hid (sumLeft es (Maps.has (.map es)) (lenD len) = sumLeft es (fun _ => true) (lenD len)) := by
    unfold sumLeft
    congr 2
    apply List.filter_congr
    intro p hp
    rw [Maps.has_eq, List.any_eq_true.2 ⟨p, hp, WideAt.sameKey_self (hkl p hp)⟩]
  generalize sumLeft es (fun _ => true) (lenD len) = T at *
  clear hN hall hp1 hpw hkl
  go_enter Try.func30, Try.ntmps30
  go_wp2_with (first | (at_range; refine wpList_range_own _ rfl _ 56 rfl 9 62 key9 Try.underlying56 Rp N n (.map es) rfl HN.out ?_; intro w0 hrg0 hg0 hs0))
  go_frame
  go_loopw [3] (fun u wr => ∃ left cnt acc, wr.ranges Try.prog 9 Rp N w.heap.size n (.map es) left cnt ∧ u = .int .i64 (acc : Nat) ∧ acc + sumLeft es left (lenD len) = T ∧ Keeps [] w wr) (fun _ wr => wr.rangeLeft N w.heap.size)
  case atStart => exact ⟨_, _, 0, hrg0, rfl, by rw [HHas.out, Nat.zero_add], (Keeps.refl [] w).grown hg0 fun _ e => by cases e⟩
  case round =>
    obtain ⟨left, cnt, acc, hrg, rfl, hsum, hK⟩ := hrel
    have HK := Lib.hid hK
    have HRG := Lib.hid hrg
    clear hK
    go_wp2_with (first | (at_next; refine wpList_next_ranges wr rfl _ rfl 9 key9 Rp Value.string mkV mkK_inv mkV_inv N w.heap.size n (.map es) left cnt rfl HRG.out ?_ ?_))
    · intro hc0 hl0
      have hz := HZ.out left hl0
      have hT : acc = T := by omega
      have HT := Lib.hid hT
      clear hz hsum hT
      go_wp2
      go_ret
      exact ⟨by rw [← HT.out]; rfl, HK.out⟩
    · intro x cv kl y ps w' cnt' hkey hlk hRv hat hrg' hlt hgr hsz hen
      have hmem := entry_in es kl y hat
      obtain ⟨f, hf, hfl, pv, cap, hcell⟩ := HA.out _ hmem
      simp only at hf
      obtain rfl : cv = some f := by
        cases cv with
        | none => rw [show Rp (mkV none) = some (.lit (.int .i64 (-1)), []) from rfl] at hRv; cases hRv; simp at hf
        | some g => rw [show Rp (mkV (some g)) = some (.lit (.int .i64 (g : Nat)), []) from rfl] at hRv; cases hRv; simp at hf; congr 1; omega
      have hst := HS.out kl y left hlk hmem
      have hlen : lenD len y = len f := by rw [hf]; rfl
      rw [hlen] at hst
      have hcr := (World.cell?_of_block (HK.out.block f hfl (by simp))).trans hcell
      have hcw : w'.cell? ⟨f, 0, none⟩ = some (.slice pv (len f) cap) := (World.cell?_of_block (hgr.block f (Nat.lt_of_lt_of_le hfl HK.out.size) (by simp; omega))).trans hcr
      have HK2 : Hid (Keeps [] w w') := HK.out.grown hgr fun k e hk => by cases e; omega
      have HM := Lib.hid (show w'.rangeLeft N w.heap.size < wr.rangeLeft N w.heap.size by rw [hrg'.left_eq, HRG.out.left_eq]; exact hlt)
      have HRG2 := Lib.hid hrg'
      have hb2 : acc + len f ≤ 1000000000 := by omega
      generalize len f = lf at *
      have hen' : (Instr.entry (.pointer (some ⟨w.heap.size, 0, none⟩))).run Try.prog w' = .ok (.tuple #[.string x, .pointer (some ⟨f, 0, none⟩)]) w' := hen
      rw [show mkV (some f) = .pointer (some ⟨f, 0, none⟩) from rfl]
      clear hgr hat hkey hRv hrg' hen
      go_wp2
      go_roundw
      case rel => exact ⟨_, _, acc + lf, HRG2.out, rfl, by omega, HK2.out⟩
      case measure => exact HM.out
end Go.Proofs.Ytebkgkaihjoamaa
