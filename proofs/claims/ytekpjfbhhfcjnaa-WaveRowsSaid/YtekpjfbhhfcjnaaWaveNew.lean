/- The contract of wave.New. -/
import Derived.Test.YtekpjfbhhfcjnaaWaveRow
import Derived.Deep.RegionWith
namespace Go.Proofs.Ytekpjfbhhfcjnaa
open Go.RowKit Go.Proofs

theorem VecAt.setOther {w : World} {v g h : Nat} {bs : List Bool} (x : VecAt w v g h bs) {b : Nat} {p : Option Addr} {n c : Nat} (hb : w.cell? ⟨b, 0, none⟩ = some (.slice p n c)) (i : Nat) (u : Value) : VecAt (w.setCell ⟨b, i, none⟩ u) v g h bs := by
  have hv : v ≠ b := fun e => by have := x.hn; rw [e, hb] at this; simp at this
  have hg : ∀ j, j < words bs.length → g ≠ b := fun j hj e => by have := x.word 0 (by omega); rw [e, hb] at this; simp at this
  have hh : h ≠ b := fun e => by have := x.rank 0 (by omega); rw [e, hb] at this; simp at this
  have hc : ∀ (q j : Nat), q ≠ b → (w.setCell ⟨b, i, none⟩ u).cell? ⟨q, j, none⟩ = w.cell? ⟨q, j, none⟩ := fun q j hq => by
    have := Below.heap_setCell w ⟨b, i, none⟩ u q hq
    simp only [World.cell?, this]
  exact ⟨x.len, (hc _ _ hv).trans x.hn, (hc _ _ hv).trans x.hw, (hc _ _ hv).trans x.ha, fun j hj => (hc _ _ (hg j hj)).trans (x.word j hj), fun j hj => (hc _ _ hh).trans (x.rank j hj)⟩

/-- the matrix in block b, its first k levels laid -/
structure Rising (w : World) (b k : Nat) (p : Option Addr) (cap : Nat) (l : List Nat) : Prop where
  is : ∃ f, w.rowIs b 68 19 f ∧ f 0 = .slice p l.length cap ∧ ∀ j, j < k → f (10 + j) = .int .i64 (zsK l j) ∧ ∃ v g h, f (1 + j) = .pointer (some ⟨v, 0, none⟩) ∧ VecAt w v g h (bitsK l j)
theorem Rising.cell0 {w : World} {b k cap : Nat} {p : Option Addr} {l : List Nat} (h : Rising w b k p cap l) : w.cell? ⟨b, 0, none⟩ = some (.slice p l.length cap) := by
  obtain ⟨f, h1, h2, _⟩ := h.is
  rw [h1.cell (by omega), h2]
theorem Rising.lt {w : World} {b k cap : Nat} {p : Option Addr} {l : List Nat} (h : Rising w b k p cap l) : b < w.heap.size := by
  obtain ⟨f, h1, h2, _⟩ := h.is
  exact h1.lt
theorem Rising.cell {w : World} {b k cap : Nat} {p : Option Addr} {l : List Nat} (h : Rising w b k p cap l) (i : Nat) (hi : i < 19) : ∃ u, w.cell? ⟨b, i, none⟩ = some u ∧ w.frozen? ⟨b, i, none⟩ = false := by
  obtain ⟨f, h1, h2, _⟩ := h.is
  exact ⟨_, h1.cell hi, h1.frozen i⟩
theorem Rising.keep {w w' : World} {b k cap : Nat} {p : Option Addr} {l : List Nat} (h : Rising w b k p cap l) (hB : Below w.heap.size w w') : Rising w' b k p cap l := by
  obtain ⟨f, h1, h2, h3⟩ := h.is
  refine ⟨f, h1.of_block (hB.block _ h1.lt), h2, fun j hj => ?_⟩
  obtain ⟨h4, v, g, h, h5, h6⟩ := h3 j hj
  exact ⟨h4, v, g, h, h5, h6.keep hB⟩
theorem Rising.next {w : World} {b k cap : Nat} {p : Option Addr} {l : List Nat} (h : Rising w b k p cap l) (hk : k < 9) {v g h' : Nat} (hv : VecAt w v g h' (bitsK l k)) {z : Int} (hz : z = (zsK l k : Nat)) :
    Rising ((w.setCell ⟨b, 1 + k, none⟩ (.pointer (some ⟨v, 0, none⟩))).setCell ⟨b, 10 + k, none⟩ (.int .i64 z)) b (k + 1) p cap l := by
  have h0 := h.cell0
  obtain ⟨f, h1, h2, h3⟩ := h.is
  have hr1 := h1.set (1 + k) (.pointer (some ⟨v, 0, none⟩))
  have hr2 := hr1.set (10 + k) (.int .i64 z)
  have h00 : (w.setCell ⟨b, 1 + k, none⟩ (.pointer (some ⟨v, 0, none⟩))).cell? ⟨b, 0, none⟩ = some (.slice p l.length cap) := by
    rw [hr1.cell (by omega), if_neg (by omega), h2]
  refine ⟨_, hr2, by rw [if_neg (by omega), if_neg (by omega), h2], fun j hj => ?_⟩
  by_cases e : j = k
  · subst e
    exact ⟨by rw [if_pos rfl, hz], v, g, h', by rw [if_neg (by omega), if_pos rfl], (hv.setOther h0 _ _).setOther h00 _ _⟩
  · obtain ⟨h4, v', g', h'', h5, h6⟩ := h3 j (by omega)
    exact ⟨by rw [if_neg (by omega), if_neg (by omega), h4], v', g', h'', by rw [if_neg (by omega), if_neg (by omega), h5], (h6.setOther h0 _ _).setOther h00 _ _⟩
theorem Rising.done {w1 w : World} {b cap : Nat} {p : Option Addr} {l : List Nat} (h : Rising w b 9 p cap l) (hl : l.length ≤ 100000) (hs : ∀ x ∈ l, x ≤ 256) (hsy : SymsAt w1 p l) (hB : Below w1.heap.size w1 w) : MatAt w b l := by
  refine ⟨hl, hs, h.lt, ⟨p, cap, h.cell0, hsy.below hB⟩, fun k hk => ?_, fun k hk => ?_⟩
  all_goals
    obtain ⟨f, h1, h2, h3⟩ := h.is
    obtain ⟨h4, v, g, h', h5, h6⟩ := h3 k hk
  · exact ⟨v, g, h', by rw [h1.cell (by omega), h5], h6⟩
  · rw [h1.cell (by omega), h4]
theorem rowIs_getD (w : World) (c : Array Value) (t : TypeId) : (w.alloc (.cells c t)).rowIs w.heap.size t c.size (fun i => c.getD i undef) :=
  World.rowIs_alloc w c t _ fun i hi => by
    show c[i]? = some (c.getD i undef)
    rw [Array.getD, dif_pos hi]; exact Array.getElem?_eq_getElem hi
theorem Rising.start (w : World) (p : Option Addr) (l : List Nat) (cap : Nat) : Rising (w.alloc (.cells #[.slice p l.length cap, .pointer none, .pointer none, .pointer none, .pointer none, .pointer none, .pointer none, .pointer none, .pointer none, .pointer none,
    .int .i64 0, .int .i64 0, .int .i64 0, .int .i64 0, .int .i64 0, .int .i64 0, .int .i64 0, .int .i64 0, .int .i64 0] 68)) w.heap.size 0 p cap l :=
  ⟨_, rowIs_getD w _ 68, rfl, fun j hj => by omega⟩

theorem VecAt.grown {w w' : World} {v g h : Nat} {bs : List Bool} (x : VecAt w v g h bs) {row : Option Nat} (hg : w.grownBy w' row) (hrow : ∀ q, row = some q → ∃ u, w.cell? ⟨q, 0, none⟩ = some (.int .u16 u)) : VecAt w' v g h bs := by
  have hc : ∀ (q j : Nat) (u : Value), w.cell? ⟨q, j, none⟩ = some u → row ≠ some q → w'.cell? ⟨q, j, none⟩ = some u := fun q j u h1 h2 => by
    have hq : q < w.heap.size := by
      rcases Nat.lt_or_ge q w.heap.size with h | h
      · exact h
      · simp [World.cell?, Array.getElem?_eq_none h] at h1
    have := hg.block q hq (fun e => h2 e.symm)
    simp only [World.cell?, this] at h1 ⊢
    exact h1
  have hv : row ≠ some v := fun e => by obtain ⟨u, h1⟩ := hrow v e; have := x.hn; rw [h1] at this; simp at this
  have hgn : ∀ j, j < words bs.length → row ≠ some g := fun j hj e => by obtain ⟨u, h1⟩ := hrow g e; have := x.word 0 (by omega); rw [h1] at this; simp at this
  have hh : row ≠ some h := fun e => by obtain ⟨u, h1⟩ := hrow h e; have := x.rank 0 (by omega); rw [h1] at this; simp at this
  exact ⟨x.len, hc _ _ _ x.hn hv, hc _ _ _ x.hw hv, hc _ _ _ x.ha hv, fun j hj => hc _ _ _ (x.word j hj) (hgn j hj), fun j hj => hc _ _ _ (x.rank j hj) hh⟩
theorem Rising.grown {w w' : World} {b k cap : Nat} {p : Option Addr} {l : List Nat} (h : Rising w b k p cap l) {row : Option Nat} (hg : w.grownBy w' row) (hrow : ∀ q, row = some q → ∃ u, w.cell? ⟨q, 0, none⟩ = some (.int .u16 u)) : Rising w' b k p cap l := by
  have h0 := h.cell0
  obtain ⟨f, h1, h2, h3⟩ := h.is
  refine ⟨f, h1.of_block (hg.block _ h1.lt fun e => ?_), h2, fun j hj => ?_⟩
  · obtain ⟨u, hu⟩ := hrow _ e.symm
    rw [h0] at hu; simp at hu
  · obtain ⟨h4, v, g, h, h5, h6⟩ := h3 j hj
    exact ⟨h4, v, g, h, h5, h6.grown hg hrow⟩

theorem cell_one_at {w : World} {n : Nat} (h : w.heap.size = n) (x : Value) (t : TypeId) : ∀ j u, [x][j]? = some u → (w.alloc (.cells #[x] t)).cell? ((⟨n, 0, none⟩ : Addr).add j) = some u := by
  subst h; exact cell_one_new w x t
/-- an append to the one row: the set, the other row stay -/
theorem split_keeps {s : Nat} {W ws w3 : World} {va va' vb : Value} {n na nb : Nat} {xa xb : List Value} {F : Nat → Value} {tmp : Obj} (hset : ws.rowIs s 4 n F) (ha : ws.ownsRow (s + 1) 48 1 va na xa) (hb : ws.ownsRow (s + 1) 48 1 vb nb xb) (hap : Apart va vb)
    (hB : Below s W ws) (hgrow : (ws.alloc tmp).grownBy w3 va.ownBlock) (hat : va'.ownBlock = va.ownBlock ∨ va'.ownBlock = some (ws.alloc tmp).heap.size) :
    w3.rowIs s 4 n F ∧ w3.ownsRow (s + 1) 48 1 vb nb xb ∧ Apart va' vb ∧ Below s W w3 := by
  have hl := hset.lt
  refine ⟨(hset.alloc tmp).of_block (hgrow.block s (by simp; omega) fun e => ?_), (hb.alloc tmp).kept hgrow hap.keeps, Apart.next hap hb (hat.imp id fun e => ⟨_, ?_, e⟩), (hB.alloc (Nat.le_of_lt hl) tmp).grown hgrow ?_ fun k hk => ?_⟩
  · have := (ha.lt s e.symm).1; omega
  · simp
  · simp; omega
  · have := (ha.lt k hk).1; omega

theorem take_snoc (r : List Nat) (j : Nat) (h : j < r.length) : r.take (j + 1) = r.take j ++ [(r[j]?).getD 0] := by
  rw [List.take_succ_eq_append_getElem h]; simp [h]
/-- the bits of a level, as far as they are laid -/
def setTo (r : List Nat) (k i t : Nat) : Value := .bool (decide (t < i) && wbit ((r[t]?).getD 0) k)
theorem setTo_succ (r : List Nat) (k i t : Nat) : setTo r k (i + 1) t = if t = i then .bool (wbit ((r[i]?).getD 0) k) else setTo r k i t := by
  unfold setTo
  by_cases e : t = i
  · subst e; simp
  · rw [if_neg e, show decide (t < i + 1) = decide (t < i) from decide_eq_decide.2 (by omega)]
theorem ownsRow_set2 {w : World} {base : Nat} {e : TypeId} {size : Nat} {v : Value} {n : Nat} {xs : List Value} (h : w.ownsRow base e size v n xs) (s i : Nat) (u : Value) (hs : s < base) : (w.setCell ⟨s, i, none⟩ u).ownsRow base e size v n xs := by
  refine ⟨h.1, ?_⟩
  rcases h.2 with h | ⟨g, cap, cur, hv, hg, hh, r⟩
  · exact .inl h
  · exact .inr ⟨g, cap, cur, hv, hg, (Below.heap_setCell w ⟨s, i, none⟩ u g (by simp; omega)).trans hh, r⟩
theorem Rising.cell2 {w : World} {b k cap : Nat} {p : Option Addr} {l : List Nat} (h : Rising w b k p cap l) (hk : k < 9) (x : Value) : ∃ u, (w.setCell ⟨b, 1 + k, none⟩ x).cell? ⟨b, 10 + k, none⟩ = some u ∧ (w.setCell ⟨b, 1 + k, none⟩ x).frozen? ⟨b, 10 + k, none⟩ = false := by
  obtain ⟨f, h1, h2, _⟩ := h.is
  have := h1.set (1 + k) x
  exact ⟨_, this.cell (by omega), this.frozen _⟩
/-- a level parted: its bits in block s, the two rows -/
structure Split (s : Nat) (wr : World) (r : List Nat) (k i : Nat) (v8 v9 : Value) (wi : World) : Prop where
  set : wi.rowIs s 4 r.length (setTo r k i)
  lo : wi.ownsRow (s + 1) 48 1 v8 (lowR (r.take i) k).length (symV (lowR (r.take i) k))
  hi : wi.ownsRow (s + 1) 48 1 v9 (highR (r.take i) k).length (symV (highR (r.take i) k))
  apart : Apart v8 v9
  lo0 : (lowR (r.take i) k).length = 0 → v8 = .slice none 0 0
  below : Below s wr wi

/-- what New leaves: the matrix of the row -/
def MadeMat (l : List Nat) (w : World) (e : Ending) (w' : World) : Prop :=
  ∃ b, e = .returned (.tuple #[.pointer (some ⟨b, 0, none⟩), .int .i64 0]) ∧ MatAt w' b l ∧ Below w.heap.size w w'

set_option maxHeartbeats 1000000 in
theorem mat_any (w : World) (base : Nat) (v : Value) (l : List Nat) (hl : l.length ≤ 100000) (hs : ∀ x ∈ l, x ≤ 256) (h : w.ownsRow base 48 1 v l.length (symV l)) : Calls Try.prog 23 #[v] w (MadeMat l w) := by
  have HC1 := Lib.hid (clone_any w base v l hl h)
  have HOWN := Lib.hid h
  obtain ⟨p0, cap0, rfl, _, hs0⟩ := symsAt_of_owns h
  have HCo := Lib.hid (contains_none w p0 cap0 l hl hs hs0)
  clear h hs0
  obtain ⟨i0, hi, hz0, hz1, hz2⟩ := info_parts info48
  go_enter Try.func23, Try.ntmps23
  go_wp2_with (go_at_call 37; (with_reducible refine HCo.out.mono ?_); rintro e w' ⟨rfl, rfl⟩)
  refine HC1.out.mono ?_
  rintro e w1 ⟨v1, rfl, hown1, hB1⟩
  obtain ⟨p1, cap1, rfl, _, hs1⟩ := symsAt_of_owns hown1
  have HB1 := Lib.hid hB1
  have HS1 := Lib.hid hs1
  clear hown1 hB1 hs1
  have hd100 : decide ((100000 : Int) < (l.length : Int)) = false := decide_eq_false (by omega)
  go_wp2_with fail
  have HR0 := Lib.hid (Rising.start w1 p1 l cap1)
  have HOWN2 := Lib.hid ((ownsRow_below HOWN.out HB1.out).alloc (.cells #[.slice p1 l.length cap1, .pointer none, .pointer none, .pointer none, .pointer none, .pointer none, .pointer none, .pointer none, .pointer none, .pointer none,
    .int .i64 0, .int .i64 0, .int .i64 0, .int .i64 0, .int .i64 0, .int .i64 0, .int .i64 0, .int .i64 0, .int .i64 0] 68))
  have HB2 := Lib.hid ((Below.refl w1.heap.size w1).alloc (Nat.le_refl _) (.cells #[.slice p1 l.length cap1, .pointer none, .pointer none, .pointer none, .pointer none, .pointer none, .pointer none, .pointer none, .pointer none, .pointer none,
    .int .i64 0, .int .i64 0, .int .i64 0, .int .i64 0, .int .i64 0, .int .i64 0, .int .i64 0, .int .i64 0, .int .i64 0] 68))
  generalize w1.alloc _ = w2 at *
  have HC2 := Lib.hid (clone_any w2 _ _ l hl HOWN2.out)
  refine HC2.out.mono ?_
  rintro e w3 ⟨v5, rfl, hown3, hB3⟩
  obtain ⟨p5, cap5, rfl, _, hs5⟩ := symsAt_of_owns hown3
  have HR3 := Lib.hid (HR0.out.keep hB3)
  have HB3 := Lib.hid (HB2.out.trans (hB3.mono (Nat.le_of_lt HR0.out.lt)))
  have HS5 := Lib.hid hs5
  generalize hb : w1.heap.size = b at *
  have HBB := Lib.hid hb
  clear hown3 hB3 hs5 HR0 HB2 HOWN2 HC2 HOWN HC1 HCo hb
  go_wp2
  go_loopw [5, 25] (fun u5 i wr => ∃ k : Nat, k ≤ 9 ∧ i = .int .i64 k ∧ Rising wr b k p1 cap1 l ∧ Below b w1 wr ∧ ∃ p5 cap5, u5 = .slice p5 l.length cap5 ∧ SymsAt wr p5 (rowK l k)) (fun _ i _ => 9 - (intOf i).toNat)
  case atStart => exact ⟨0, Nat.zero_le _, rfl, HR3.out, HB3.out, p5, cap5, rfl, by rw [rowK_zero]; exact HS5.out⟩
  case round =>
    obtain ⟨k, hk, rfl, hR, hB, p5, cap5, rfl, hS⟩ := hrel
    by_cases hlt : k < 9
    · have hrl := rowK_length l k
      have hrs : ∀ x ∈ rowK l k, x ≤ 256 := fun x hx => hs x (rowK_mem l x k hx)
      have HRn := Lib.hid (rowK_succ l k)
      have HZ := Lib.hid (zsK_eq l k)
      have HBK := Lib.hid (bitsK_eq l k)
      generalize rowK l k = r at *
      have hm1 := fun W => run_make_row' (P := Try.prog) 22 4 (.bool false) 1 Try.underlying22 info4 rfl .i64 .i64 l.length (by omega) (by omega) W
      have HS := Lib.hid hS
      have HR := Lib.hid hR
      have HB := Lib.hid hB
      clear hS hR hB
      generalize wr = W at *
      have hdk : decide ((k : Int) < 9) = true := decide_eq_true (by omega)
      go_wp2
      have HSp : Hid (Split W.heap.size W r k 0 (.slice none 0 0) (.slice none 0 0) (W.alloc (.cells (madeCells #[.bool false] l.length) 4))) :=
        ⟨by rw [hrl]; exact (World.rowIs_made W (.bool false) l.length 4).congr (fun i hi => by simp [setTo]), by rw [List.take_zero, lowR_nil]; exact World.ownsRow_nil _ _ _ _, by rw [List.take_zero, highR_nil]; exact World.ownsRow_nil _ _ _ _, fun _ h => by simp [Value.ownBlock] at h, fun _ => rfl, (Below.refl _ _).alloc (Nat.le_refl _) _⟩
      clear hm1
      go_loopw [8, 9, 33] (fun v8 v9 i wi => ∃ j : Nat, j ≤ l.length ∧ i = .int .i64 j ∧ Split W.heap.size W r k j v8 v9 wi) (fun _ _ i _ => l.length - (intOf i).toNat)
      case atStart => exact ⟨0, Nat.zero_le _, rfl, HSp.out⟩
      case round =>
        obtain ⟨j, hj, rfl, hSp⟩ := hrel
        by_cases hjl : j < l.length
        · rcases HS.out with hnil | ⟨bb, off, rfl, hbb, hcs⟩
          · rw [hnil] at hrl; simp at hrl; omega
          obtain ⟨hset, hlo, hhi, hap, hlo0, hBs⟩ := hSp
          have hcell := (hBs.cell (p := ⟨bb, off + j, none⟩) hbb).trans (hcs j (by omega))
          have hc := hrs ((r[j]?).getD 0) (by rw [List.getElem?_eq_getElem (show j < r.length by omega)]; simp)
          have HT := Lib.hid (take_snoc r j (by omega))
          have HL := Lib.hid (lowR_snoc (r.take j) k ((r[j]?).getD 0))
          have HH := Lib.hid (highR_snoc (r.take j) k ((r[j]?).getD 0))
          have HST := Lib.hid (setTo_succ r k j)
          have hl1 : (lowR (r.take j) k).length + (highR (r.take j) k).length = (r.take j).length := len_low_high _ _
          rw [List.length_take] at hl1
          rw [← HT.out] at HL HH
          generalize (r[j]?).getD 0 = c at *
          have HBit := Lib.hid (bit_any c k (by omega) hlt wr)
          have hc1 := hset.cell (show j < r.length by omega)
          have hfz := hset.frozen j
          have hsz := hBs.size
          have HSet := Lib.hid (hset.set j (.bool (wbit c k)))
          have hload := HSet.out.cell (show j < r.length by omega)
          rw [if_pos rfl] at hload
          have HLo := Lib.hid (ownsRow_set2 hlo W.heap.size j (.bool (wbit c k)) (by omega))
          have HHi := Lib.hid (ownsRow_set2 hhi W.heap.size j (.bool (wbit c k)) (by omega))
          have HBs := Lib.hid (hBs.setCell (Nat.le_refl _) (.bool (wbit c k)) : Below W.heap.size W (wr.setCell ⟨W.heap.size, j, none⟩ (.bool (wbit c k))))
          have HAp := Lib.hid hap
          have HLo0 := Lib.hid hlo0
          generalize setTo r k j j = old at *
          clear hset hlo hhi hap hlo0 hBs hcs
          generalize wbit c k = x at *
          cases x
          · rw [if_neg (by simp)] at HL HH
            go_wp2_with (first
              | (go_at_call 40; (with_reducible refine HBit.out.mono ?_); rintro e w' ⟨rfl, rfl⟩)
              | (at_builtin; refine wpList_append_own_at _ rfl (.tmp 53) (.tmp 55) 41 rfl (W.heap.size + 1) 48 i0 (.int .u16 0) 1 2 Try.underlying41 hi hz0 hz1 hz2 rfl (by decide) _ _ _ rfl (HLo.out.alloc _) ⟨wr.heap.size, 0, none⟩ 1 1 [.int .u16 (c : Int)] rfl rfl (cell_one_at (World.size_setCell _ _ _) _ _) (by simp [Value.oneCell']) ?_ ?_ ?_ ?_))
            · unfold maxLen; omega
            · omega
            · have := HSet.out.lt; simp at this ⊢; omega
            intro v' w4 hown' hgrow _ hat
            obtain ⟨hx1, hx2, hx3, hx4⟩ := split_keeps HSet.out HLo.out HHi.out HAp.out HBs.out hgrow (hat.imp id fun e => e.trans (by simp))
            have HX : Hid (Split W.heap.size W r k (j + 1) v' u9 w4) := ⟨hx1.congr fun i _ => (HST.out i).symm, by rw [HL.out, symV_snoc, List.length_append]; exact hown', by rw [HH.out]; exact hx2, hx3, fun h => by rw [HL.out] at h; simp at h, hx4⟩
            clear hown' hgrow hat hx1 hx2 hx3 hx4
            go_wp2
            go_roundw
            case rel => exact ⟨j + 1, by omega, by go_num, HX.out⟩
            case measure => simp [intOf]; omega
          · rw [if_pos rfl] at HL HH
            go_wp2_with (first
              | (go_at_call 40; (with_reducible refine HBit.out.mono ?_); rintro e w' ⟨rfl, rfl⟩)
              | (at_builtin; refine wpList_append_own_at _ rfl (.tmp 49) (.tmp 51) 41 rfl (W.heap.size + 1) 48 i0 (.int .u16 0) 1 2 Try.underlying41 hi hz0 hz1 hz2 rfl (by decide) _ _ _ rfl (HHi.out.alloc _) ⟨wr.heap.size, 0, none⟩ 1 1 [.int .u16 (c : Int)] rfl rfl (cell_one_at (World.size_setCell _ _ _) _ _) (by simp [Value.oneCell']) ?_ ?_ ?_ ?_))
            · unfold maxLen; omega
            · omega
            · have := HSet.out.lt; simp at this ⊢; omega
            intro v' w4 hown' hgrow _ hat
            obtain ⟨hx1, hx2, hx3, hx4⟩ := split_keeps HSet.out HHi.out HLo.out HAp.out.symm HBs.out hgrow (hat.imp id fun e => e.trans (by simp))
            have HX : Hid (Split W.heap.size W r k (j + 1) u8 v' w4) := ⟨hx1.congr fun i _ => (HST.out i).symm, by rw [HL.out]; exact hx2, by rw [HH.out, symV_snoc, List.length_append]; exact hown', hx3.symm, fun h => by rw [HL.out] at h; exact HLo0.out h, hx4⟩
            clear hown' hgrow hat hx1 hx2 hx3 hx4
            go_wp2
            go_roundw
            case rel => exact ⟨j + 1, by omega, by go_num, HX.out⟩
            case measure => simp [intOf]; omega
        · obtain rfl : j = l.length := by omega
          have htk : r.take l.length = r := List.take_of_length_le (by omega)
          obtain ⟨hset, hlo, hhi, hap, hlo0, hBs⟩ := hSp
          rw [htk] at hlo hhi hlo0
          have hlen := len_low_high r k
          have hbl := bitsK_length l k
          have hbools : BoolsAt wr (some ⟨W.heap.size, 0, none⟩) (bitsK l k) := .inr ⟨W.heap.size, 0, rfl, hset.lt, fun i hi => by
            have hi' : i < r.length := by omega
            rw [Nat.zero_add, hset.cell hi', HBK.out]
            simp [setTo, hi', show i < l.length by omega]⟩
          have hNew := new_any wr.drew (some ⟨W.heap.size, 0, none⟩) l.length (bitsK l k) (by omega) (show BoolsAt wr.drew _ _ from hbools)
          rw [hbl] at hNew
          have HNew := Lib.hid hNew
          have HLo := Lib.hid hlo
          have HHi := Lib.hid hhi
          have HLo0 := Lib.hid hlo0
          have hbs := HR.out.lt
          have hwr := hset.lt
          have HRr := Lib.hid ((HR.out.keep hBs).keep (Below.refl _ wr).drew)
          have HBr := Lib.hid (HB.out.trans (hBs.mono (Nat.le_of_lt HR.out.lt)))
          clear hset hlo hhi hap hlo0 hBs hbools hNew htk hbl
          obtain ⟨p8, c8, rfl, _, _⟩ := symsAt_of_owns HLo.out
          obtain ⟨p9, c9, rfl, _, _⟩ := symsAt_of_owns HHi.out
          go_wp2_with fail
          go_region_with (go_at_call 11; refine (HNew.out.mono ?_); rintro e w4 ⟨vb, vg, vh, rfl, hv, hB4⟩; obtain ⟨oc, hoc, hof⟩ := (HRr.out.keep hB4).cell (1 + k) (by omega))
          clear hoc hof
          have hR4 := HRr.out.keep hB4
          obtain ⟨oc2, hoc2, hof2⟩ := hR4.cell2 hlt (.pointer (some ⟨vb, 0, none⟩))
          have hsz4 := hB4.size
          have HR5 := Lib.hid (hR4.next hlt hv (show ((lowR r k).length : Int) = (zsK l k : Nat) by rw [HZ.out]))
          have HLo5 := Lib.hid (ownsRow_set2 (ownsRow_set2 (ownsRow_below (w := wr.drew) HLo.out hB4) b (1 + k) (.pointer (some ⟨vb, 0, none⟩)) (by omega)) b (10 + k) (.int .i64 (lowR r k).length) (by omega))
          have HHi5 := Lib.hid (ownsRow_set2 (ownsRow_set2 (ownsRow_below (w := wr.drew) HHi.out hB4) b (1 + k) (.pointer (some ⟨vb, 0, none⟩)) (by omega)) b (10 + k) (.int .i64 (lowR r k).length) (by omega))
          have HB5 := Lib.hid (((HBr.out.drew.trans (hB4.mono (show b ≤ wr.drew.heap.size from by show b ≤ wr.heap.size; omega))).setCell (Nat.le_refl _) (.pointer (some ⟨vb, 0, none⟩)) : Below b w1 (w4.setCell ⟨b, 1 + k, none⟩ (.pointer (some ⟨vb, 0, none⟩)))).setCell (Nat.le_refl _) (.int .i64 (lowR r k).length) : Below b w1 ((w4.setCell ⟨b, 1 + k, none⟩ (.pointer (some ⟨vb, 0, none⟩))).setCell ⟨b, 10 + k, none⟩ (.int .i64 (lowR r k).length)))
          have hll : (lowR r k).length ≤ 100000 := by omega
          clear hv hB4 hR4
          go_wp2_with (first | (at_builtin; refine wpList_append_row (by rfl) (.tmp 75) (.tmp 76) 41 rfl (W.heap.size + 1) 48 i0 (.int .u16 0) 1 2 Try.underlying41 hi hz0 hz1 hz2 rfl (by decide) _ _ _ rfl HLo5.out (W.heap.size + 1) _ _ _ rfl HHi5.out (symV_one _) ?_ ?_ ?_ ?_))
          · unfold maxLen; omega
          · omega
          · simp; have : wr.heap.size ≤ w4.heap.size := hsz4; omega
          intro v' w6 hown hgrow
          have HX : Hid (Rising w6 b (k + 1) p1 cap1 l) := HR5.out.grown hgrow fun q hq => by
            by_cases h0 : (lowR r k).length = 0
            · rw [HLo0.out h0] at hq; simp [Value.ownBlock] at hq
            · have h1 := HLo5.out.cells hq 0 (.int .u16 (((lowR r k)[0]?).getD 0 : Nat)) (by simp [symV, show 0 < (lowR r k).length by omega])
              exact ⟨_, h1⟩
          have HX2 := Lib.hid (HB5.out.grown hgrow (by simp; have : wr.heap.size ≤ w4.heap.size := hsz4; omega) fun q hq => by have := (HLo5.out.lt q hq).1; omega)
          rw [← symV_append, ← HRn.out] at hown
          have hkl := rowK_length l (k + 1)
          rw [← hkl] at hown
          obtain ⟨p5', cap5', rfl, _, hs5'⟩ := symsAt_of_owns hown
          rw [hkl]
          have HX3 := Lib.hid hs5'
          clear hown hgrow hs5' hoc2 hof2
          go_wp2
          go_roundw
          case rel => exact ⟨k + 1, by omega, by go_num, HX.out, HX2.out, p5', cap5', rfl, HX3.out⟩
          case measure => simp [intOf]; omega
    · obtain rfl : k = 9 := by omega
      go_wp2
      go_ret2
      exact ⟨b, rfl, hR.done hl hs HS1.out (by rw [HBB.out]; exact hB), by have := HBB.out; exact HB1.out.trans (hB.mono (by rw [← this]; exact HB1.out.size))⟩
end Go.Proofs.Ytekpjfbhhfcjnaa
