/- Append's function: a file's bytes grow by a slice that can be read. -/
import Derived.Test.YtebkgkaihjoamaaRow
namespace Go.Proofs.Ytebkgkaihjoamaa
open Go.RowKit Go.Proofs

set_option maxRecDepth 100000 in
set_option maxHeartbeats 2000000 in
theorem append1 {w : World} {D f Bd Bb base : Nat} {q c st fl fe : Int} {vf : Value} {N L n : Nat} {vt : Value} {es : List (Lit × DataW Unit)} (hD : DiskIs w D q c st fl fe false vf N L vt) (hN : NamesAt w N n (.map es)) (len : Nat → Nat)
    (hall : ∀ p ∈ es, ∃ f : Nat, p.2 = .lit (.int .i64 (f : Nat)) ∧ f < w.heap.size ∧ ∃ pv cap, w.cell? ⟨f, 0, none⟩ = some (.slice pv (len f) cap)) (hbd : sumLeft es (fun _ => true) (lenD len) ≤ 1000000000)
    (v : Value) (last : Int) (k : Nat) (xs news : List Value) (src : Value) (hf : w.heap[f]? = some (.cells #[v, .int .i64 last] 64 (0, 0))) (hv : w.ownsRow base 5 1 v k xs) (hsrc : Reads w src news) (hnews : ∀ u ∈ news, u.oneCell' = true)
    (hb1 : Boxed w Bd 23 (.pointer (some ⟨D, 0, none⟩))) (hb2 : Boxed w Bb 29 src) (hbase : base ≤ w.heap.size)
    (h1 : k + news.length ≤ 200000) (hq : 0 ≤ q ∧ q ≤ 10000000) :
    Calls Try.prog 48 #[fptr f, .pointer (some ⟨Bb, 0, none⟩), .pointer (some ⟨Bd, 0, none⟩)] w fun e w' =>
      (q - (sumLeft es (fun _ => true) (lenD len) : Nat) < news.length ∧ e = .returned (.int .i64 15) ∧ Keeps [] w w') ∨
      ((sumLeft es (fun _ => true) (lenD len) : Nat) + (news.length : Int) ≤ q ∧ e = .returned (.int .i64 0) ∧
      ∃ v', w'.heap[f]? = some (.cells #[v', .int .i64 last] 64 (0, 0)) ∧ w'.ownsRow base 5 1 v' (k + news.length) (xs ++ news) ∧ Keeps (f :: v.ownBlock.toList) w w' ∧ (v'.ownBlock = v.ownBlock ∨ ∃ g, v'.ownBlock = some g ∧ w.heap.size ≤ g)) := by
  have cf : w.cell? ⟨f, 0, none⟩ = some v := by simp [World.cell?, hf]
  obtain ⟨pv, cap, rfl⟩ : ∃ pv cap, v = .slice pv k cap := by
    rcases ownsRow_shape hv with ⟨rfl, rfl⟩ | ⟨g, cap, rfl, _⟩
    · exact ⟨_, _, rfl⟩
    · exact ⟨_, _, rfl⟩
  obtain ⟨ps, cs, rfl⟩ := hsrc.shape
  have k1 := hb1.cell
  have k2 := hb2.cell
  have c0 : w.cell? ⟨D, 0, none⟩ = some (.int .i64 q) := hD.cell 0 _ rfl
  have HU := Lib.hid (fun W (kk : Keeps [] w W) => used_any (kk.disk hD (by simp)) (kk.names hN (by simp)) len (fun p hp => by
    obtain ⟨g, a1, a2, pv, cap, a3⟩ := hall p hp
    exact ⟨g, a1, Nat.lt_of_lt_of_le a2 kk.size, pv, cap, (World.cell?_of_block (kk.block g a2 (by simp))).trans a3⟩) hbd)
  have HD := Lib.hid hD
  have HB1 := Lib.hid hb1
  have HB2 := Lib.hid hb2
  have HF := Lib.hid hf
  have HV := Lib.hid hv
  have HS := Lib.hid hsrc
  have hl1 := hb1.lt
  have hl2 := hb2.lt
  have hDl := hD.lt
  have hfl := (Array.getElem?_eq_some_iff.1 hf).1
  generalize sumLeft es (fun _ => true) (lenD len) = T at *
  clear hall hN hD hf hv hsrc hb1 hb2
  obtain ⟨j0, hj, hy0, hy1, hy2⟩ := info_parts info5
  go_enter Try.func48, Try.ntmps48
  go_wp2_with fail
  go_quiet (fail)
  go_wp2_with fail
  generalize hW1 : w.drewN _ = W1 at *
  have HK1 : Hid (Keeps [] w W1) := by rw [← hW1]; exact (Keeps.refl [] w).drewN _
  clear hW1 k1 k2 c0 cf
  have k1 := (HK1.out.boxed HB1.out (by simp)).cell
  have k2 := (HK1.out.boxed HB2.out (by simp)).cell
  have c0 : W1.cell? ⟨D, 0, none⟩ = some (.int .i64 q) := (HK1.out.disk HD.out (by simp)).cell 0 _ rfl
  have hk1 : W1.heap.size ≥ w.heap.size := HK1.out.size
  have HU1 := Lib.hid (HU.out _ HK1.out.drew)
  clear HU
  have hwr : IntKind.i64.wrap (q - (T : Int)) = q - (T : Int) := IntWalk.i64_in _ (by omega)
  have HWR := Lib.hid hwr
  clear hwr
  go_cut [15] from 16 to 25 (fun u wx => u = .bool (decide (q - (T : Int) < (news.length : Int))) ∧ Keeps [] w wx)
  case first =>
    go_region_with (go_at_call 30; (with_reducible refine HU1.out.mono ?_); (rintro e w2 ⟨rfl, hk⟩); (have HK2 := Lib.hid (HK1.out.drew.trans hk)); clear hk; (have k1' := (HK2.out.boxed HB1.out (by simp)).cell); (have k2' := (HK2.out.boxed HB2.out (by simp)).cell); (have c0' : w2.cell? ⟨D, 0, none⟩ = some (.int .i64 q) := (HK2.out.disk HD.out (by simp)).cell 0 _ rfl))
    all_goals (go_wp2_with fail; go_meet; exact ⟨by rw [HWR.out], HK2.out⟩)
  case rest =>
    obtain ⟨rfl, hk⟩ := hcut
    have HK := Lib.hid hk
    clear hk HK1 HU1 k1 k2 c0 hk1
    have hsz := HK.out.size
    have k1 := (HK.out.boxed HB1.out (by simp)).cell
    have k2 := (HK.out.boxed HB2.out (by simp)).cell
    have hf2 := (HK.out.block f hfl (by simp)).trans HF.out
    have cf : wc.cell? ⟨f, 0, none⟩ = some (.slice pv k cap) := by simp [World.cell?, hf2]
    have ff : wc.frozen? ⟨f, 0, none⟩ = false := by simp [World.frozen?, hf2]
    by_cases hfull : q - (T : Int) < news.length
    · go_wp2_with fail
      go_ret
      exact .inl ⟨hfull, rfl, HK.out⟩
    · go_wp2_with fail
      have HF2 := Lib.hid hf2
      have HVC := Lib.hid (HK.out.row HV.out (by simp))
      have HSC := Lib.hid (HK.out.reads HS.out (by simp))
      have HFne : Hid (some f ≠ (Value.slice pv k cap).ownBlock) := fun e => own_ne HV.out HF.out (by decide) e.symm
      have hflc : f < wc.heap.size := by omega
      have hbc : base ≤ wc.heap.size := by omega
      clear hf2
      go_cut [] from 26 to 34 (fun wx => ∃ v', wx.heap[f]? = some (.cells #[v', .int .i64 last] 64 (0, 0)) ∧ wx.ownsRow base 5 1 v' (k + news.length) (xs ++ news) ∧ Keeps (f :: (Value.slice pv k cap).ownBlock.toList) wc wx ∧ (v'.ownBlock = (Value.slice pv k cap).ownBlock ∨ v'.ownBlock = some wc.heap.size))
      case first =>
        go_region_law ((refine step_append_row (by rfl) _ _ _ (by rfl) base 5 j0 _ 1 Try.underlying29 hj hy0 hy1 hy2 rfl (.slice pv k cap) k xs (by rfl) HVC.out.drew (.slice ps news.length cs) news (by rfl) HSC.out hnews (by unfold maxLen; omega) (by omega) hbc ?_; intro v' w1 hown1 hgrow hat; obtain ⟨pq, cq, rfl⟩ := ownsRow_slice hown1; have hkf : w1.cell? ⟨f, 0, none⟩ = some (.slice pv k cap) := (by rw [hgrow.cell_far _ hflc HFne.out]; exact cf); have hzf : w1.frozen? ⟨f, 0, none⟩ = false := (by rw [hgrow.frozen_far _ hflc HFne.out]; exact ff)))
        all_goals
          go_wp2_with fail
          go_meet
          have hw1f : w1.heap[f]? = some (.cells #[.slice pv k cap, .int .i64 last] 64 (0, 0)) := (hgrow.block f hflc HFne.out).trans HF2.out
          refine ⟨_, ?_, ?_, ?_, hat⟩
          · exact cells_set hw1f 0 _
          · exact ownsRow_set2' hown1 f 0 _ (fun e => own_ne hown1 hw1f (by decide) e)
          · exact (((Keeps.refl _ wc).drew).grown hgrow fun k hk _ => by rw [hk]; simp).setCell _ _ fun _ => by simp
      case rest =>
        obtain ⟨v', h1', h2', h3', h4'⟩ := hcut
        have H1 := Lib.hid h1'
        have H2 := Lib.hid h2'
        have H3 := Lib.hid ((HK.out.mono (Y := f :: (Value.slice pv k cap).ownBlock.toList) (by simp)).trans h3')
        have H4 := Lib.hid h4'
        clear h1' h2' h3' h4'
        go_wp2_with fail
        go_ret
        refine .inr ⟨by omega, rfl, v', H1.out, H2.out, H3.out, H4.out.imp_right fun e => ⟨_, e, hsz⟩⟩
end Go.Proofs.Ytebkgkaihjoamaa
