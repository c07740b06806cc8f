/- List, and the equality of two rows of texts. -/
import Derived.Test.YtebkgkaihjoamaaSort
import Derived.Test.YtebkgkaihjoamaaKeepT
namespace Go.Proofs.Ytebkgkaihjoamaa
open Go.RowKit Go.Proofs

/-- a slice of texts -/
def StrRow (w : World) (v : Value) (ts : List (List UInt8)) : Prop :=
  (v = .slice none 0 0 ∧ ts = []) ∨ ∃ g cap cs fr, v = .slice (some ⟨g, 0, none⟩) ts.length cap ∧ w.heap[g]? = some (.cells cs 9 fr) ∧ cs.toList.take ts.length = ts.map encStr
theorem StrRow.keepT {w w' : World} {v : Value} {ts : List (List UInt8)} (h : StrRow w v ts) (k : KeepT w w') : StrRow w' v ts := by
  rcases h with h | ⟨g, cap, cs, fr, h1, h2, h3⟩
  · exact .inl h
  · exact .inr ⟨g, cap, cs, fr, h1, k g _ _ _ h2 (by simp), h3⟩
theorem StrRow.keep {w w' : World} {v : Value} {ts : List (List UInt8)} (h : StrRow w v ts) (k : Keeps [] w w') : StrRow w' v ts := h.keepT (k.keepT (by simp))
theorem StrRow.shape {w : World} {v : Value} {ts : List (List UInt8)} (h : StrRow w v ts) : ∃ p cap, v = .slice p ts.length cap ∧ (p = none → ts = []) := by
  rcases h with ⟨rfl, rfl⟩ | ⟨g, cap, cs, fr, rfl, _⟩
  · exact ⟨_, _, rfl, fun _ => rfl⟩
  · exact ⟨_, _, rfl, fun e => by cases e⟩
theorem StrRow.cell {w : World} {p : Option Addr} {n cap : Nat} {ts : List (List UInt8)} (h : StrRow w (.slice p n cap) ts) (j : Nat) (hj : j < ts.length) : ∃ g, p = some ⟨g, 0, none⟩ ∧ w.cell? ⟨g, 0 + j, none⟩ = some (.string ⟨(ts[j]).toArray⟩) := by
  rcases h with ⟨_, rfl⟩ | ⟨g, cap', cs, fr, h1, h2, h3⟩
  · simp at hj
  · cases h1
    refine ⟨g, rfl, ?_⟩
    have e : (cs.toList.take ts.length)[j]? = (ts.map encStr)[j]? := by rw [h3]
    rw [List.getElem?_take_of_lt hj, Array.getElem?_toList] at e
    simp only [World.cell?, h2, Nat.zero_add]
    rw [show (cs[j]?) = _ from e]
    simp [hj, encStr]
theorem own_str {w : World} {base n : Nat} {v : Value} {ts : List (List UInt8)} (h : w.ownsRow base 9 1 v n (ts.map encStr)) : StrRow w v ts := by
  have hn : ts.length = n := by have := h.1; simpa using this
  rcases h.2 with ⟨rfl, h0⟩ | ⟨g, cap, cur, rfl, _, hh, _, _, _, h4⟩
  · exact .inl ⟨rfl, List.length_eq_zero_iff.1 (by omega)⟩
  · exact .inr ⟨g, cap, cur, _, by rw [hn], hh, by rw [hn]; simpa using h4⟩
theorem clip_str (w : World) (base : Nat) (v : Value) (n : Nat) (ts : List (List UInt8)) (h : w.ownsRow base 9 1 v n (ts.map encStr)) :
    Calls Try.prog 41 #[v] w fun e w' => ∃ v', e = .returned v' ∧ StrRow w v' ts ∧ w = w' := by
  have hS := own_str h
  have hn : ts.length = n := by have := h.1; simpa using this
  subst hn
  rcases hS with ⟨rfl, rfl⟩ | ⟨g, cap, cs, fr, rfl, h2, h3⟩
  · clear h
    go_enter Try.func41, Try.ntmps41
    go_wp2
    go_ret
    exact ⟨_, rfl, .inl ⟨rfl, rfl⟩, rfl⟩
  · have hcap : ts.length ≤ cap := by
      rcases h.2 with ⟨e, _⟩ | ⟨g', cap', cur, e, _, _, hc, _⟩
      · cases e
      · cases e; omega
    have HS : Hid (StrRow w (.slice (some ⟨g, 0, none⟩) ts.length ts.length) ts) := .inr ⟨g, _, cs, fr, rfl, h2, h3⟩
    clear h h2 h3
    go_enter Try.func41, Try.ntmps41
    go_wp2
    go_ret
    exact ⟨_, rfl, HS.out, rfl⟩
set_option maxRecDepth 100000 in
set_option maxHeartbeats 1000000 in
theorem list_any {w : World} {D : Nat} {q c st fl fe : Int} {vf : Value} {N L n : Nat} {vt : Value} {nm : DataW Unit} (h : DiskIs w D q c st fl fe false vf N L vt) (hN : NamesAt w N n nm) (hsz : Maps.size nm ≤ 1000000) :
    Calls Try.prog 16 #[.pointer (some ⟨D, 0, none⟩)] w fun e w' => ∃ v ss, e = .returned v ∧ List.Perm ss (strKeys nm) ∧ StrRow w' v (ss.mergeSort (fun x y => decide (x ≤ y))) ∧ Keeps [] w w' := by
  have c5 : w.cell? ⟨D, 5, none⟩ = some (.bool false) := h.cell 5 _ rfl
  have c7 : w.cell? ⟨D, 7, none⟩ = some (.map (some N)) := h.cell 7 _ rfl
  have HK := Lib.hid (maps_Keys_43 (some N) w)
  have HS := Lib.hid (slices_Sorted_keys_42_43 N n nm Rp w hN (by unfold maxLen; omega) (by omega))
  clear h hN
  refine (callsIn_wide (n := 6)).1 ?_
  have hfK : Fence.wide.fn 43 := trivial
  have hfS : Fence.wide.fn 42 := trivial
  have hfC : Fence.wide.fn 41 := trivial
  refine callsIn_of_wp Try.func16 rfl trivial ?_ rfl
  simp only [Try.ntmps16, List.size_toArray, List.length_cons, List.length_nil, Nat.reduceAdd, Nat.reduceSub, Array.replicate_succ, Array.replicate_zero, List.push_toArray, List.append_toArray, List.nil_append, List.cons_append]
  gi_wp2_with (first
    | (gi_at_call 43; refine HK.out.mono ?_; rintro e w' ⟨rfl, rfl⟩)
    | (gi_at_call 42; refine HS.out.mono ?_; rintro e w' ⟨v, ss, rfl, hS, hrow, hnil, hb⟩)
    | (gi_at_call 41; refine (callsIn_wide.2 (clip_str _ _ _ _ _ hrow)).mono ?_; rintro e w' ⟨v', rfl, hst, rfl⟩))
  go_ret
  refine ⟨v', ss, rfl, hS, hst, ?_⟩
  have k1 : Keeps [] w (w.alloc (.cells #[.map (some N)] 56)) := (Keeps.refl [] w).alloc _
  exact k1.trans ⟨hb.os, hb.tape, hb.output, hb.size, fun k hk _ => hb.block k hk⟩
theorem list_dx {base D : Nat} {w : World} {S : St} (h : DX base w D S) (hdead : S.dead = false) :
    Calls Try.prog 16 #[.pointer (some ⟨D, 0, none⟩)] w fun e w' => ∃ v ss, e = .returned v ∧ List.Perm ss (strKeys S.nm) ∧ StrRow w' v (ss.mergeSort (fun x y => decide (x ≤ y))) ∧ Keeps [] w w' := by
  obtain ⟨vf, N, L, vt, nn, nl, vb, h1⟩ := h.at_
  have hd := h1.d
  rw [hdead] at hd
  exact list_any hd h1.n (by have := h.sn; have := h.sc; omega)
end Go.Proofs.Ytebkgkaihjoamaa
