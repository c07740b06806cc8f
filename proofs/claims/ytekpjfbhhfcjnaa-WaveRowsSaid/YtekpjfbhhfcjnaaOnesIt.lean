/- The contracts of bits.Vec's Ones and of concordancelaw7.ones: the places of the bits that are set, in order, at most so many. -/
import Derived.RangeFuncBox
import Derived.RangeFuncWrites
import Derived.RangeFuncLeaves
import Derived.Shelf.Abstract
import Derived.WalkKit
import Derived.OwnWalkIn
import Derived.TacticsInMore
import Derived.LoopNIn
import Derived.LoopIn
import Derived.Maps.AppendAt
import Derived.Test.YtekpjfbhhfcjnaaLong
namespace Go.Proofs.Ytekpjfbhhfcjnaa
open Go.RowKit Go.Shelf Go.Proofs

attribute [local go_sem] Oper.semAt_some

/-- the places of the bits that are set, below k -/
def placesTo (bs : List Bool) (k : Nat) : List Nat := (List.range k).filter fun i => (bs[i]?).getD false
theorem placesTo_hit (bs : List Bool) (k : Nat) (h : (bs[k]?).getD false = true) : placesTo bs (k + 1) = placesTo bs k ++ [k] := by
  unfold placesTo; rw [List.range_succ, List.filter_append]; simp [h]
theorem placesTo_miss (bs : List Bool) (k : Nat) (h : (bs[k]?).getD false = false) : placesTo bs (k + 1) = placesTo bs k := by
  unfold placesTo; rw [List.range_succ, List.filter_append]; simp [h]
theorem placesTo_pre (bs : List Bool) {k m : Nat} (h : k ≤ m) : placesTo bs k <+: placesTo bs m := by
  obtain ⟨d, rfl⟩ : ∃ d, m = k + d := ⟨m - k, by omega⟩
  induction d with
  | zero => exact List.prefix_refl _
  | succ d ih =>
    refine (ih (by omega)).trans ?_
    rw [show k + (d + 1) = (k + d) + 1 from rfl]
    cases hb : (bs[k + d]?).getD false
    · rw [placesTo_miss bs _ hb]; exact List.prefix_refl _
    · rw [placesTo_hit bs _ hb]; exact List.prefix_append _ _

theorem VecAt.lt {w : World} {b g h : Nat} {bs : List Bool} (v : VecAt w b g h bs) : b < w.heap.size ∧ h < w.heap.size ∧ (0 < words bs.length → g < w.heap.size) :=
  ⟨World.block_lt_of_cell? w _ v.hn, World.block_lt_of_cell? w _ (v.rank 0 (Nat.zero_le _)), fun h0 => World.block_lt_of_cell? w _ (v.word 0 h0)⟩
theorem VecAt.below {n₀ : Nat} {w w' : World} {b g h : Nat} {bs : List Bool} (v : VecAt w b g h bs) (hb : b < n₀) (hh : h < n₀) (hg : 0 < words bs.length → g < n₀) (hB : Below n₀ w w') : VecAt w' b g h bs :=
  ⟨v.len, (hB.cell (p := ⟨b, 0, none⟩) hb).trans v.hn, (hB.cell (p := ⟨b, 1, none⟩) hb).trans v.hw, (hB.cell (p := ⟨b, 2, none⟩) hb).trans v.ha,
    fun i hi => (hB.cell (p := ⟨g, i, none⟩) (hg (by omega))).trans (v.word i hi), fun i hi => (hB.cell (p := ⟨h, i, none⟩) hh).trans (v.rank i hi)⟩

/-- what a loop's body keeps: what lay below n₀, and the box of the iterator's receiver -/
def KpV (n₀ Bn : Nat) (p : Value) (W W' : World) : Prop := Below n₀ W W' ∧ (Boxed W Bn 24 p → Boxed W' Bn 24 p)
theorem KpV.trans {n₀ Bn : Nat} {p : Value} {A B C : World} (h : KpV n₀ Bn p A B) (k : KpV n₀ Bn p B C) : KpV n₀ Bn p A C := ⟨h.1.trans k.1, fun x => k.2 (h.2 x)⟩
theorem KpV.turn {n₀ Bn : Nat} {p : Value} {w : World} (hn : n₀ ≤ w.heap.size) (hb : Bn < w.heap.size) (W : World) (l : Nat) (o o' : Obj) (hl : w.heap.size ≤ l) (h : W.heap[l]? = some o) (h1 : o.isCells = false) (h2 : o.isWalk = false) : KpV n₀ Bn p W (W.putObj l o') :=
  ⟨belowK_b hn W l o o' hl h h1 h2, fun x => x.kept (grownBy_putObj' W l o') (fun e => by cases e; omega)⟩

set_option maxRecDepth 100000 in
set_option maxHeartbeats 1000000 in
theorem ones1_in (n : Nat) (hn : 1 ≤ n) (l Bn n₀ b g h : Nat) (bs : List Bool) (J Jx : List Nat → World → Prop)
    (hY : ∀ pre x W, J pre W → pre.length < bs.length → YieldAt Fence.wide (n - 1) Try.prog l #[.int .i64 (x : Nat)] W fun e W' =>
      (e = .returned (.bool true) ∧ J (pre ++ [x]) W' ∧ KpV n₀ Bn (.pointer (some ⟨b, 0, none⟩)) W W') ∨ (e = .returned (.bool false) ∧ Jx (pre ++ [x]) W'))
    (W : World) (hBn : Boxed W Bn 24 (.pointer (some ⟨b, 0, none⟩))) (hv : VecAt W b g h bs) (hb : b < n₀) (hh : h < n₀) (hg : 0 < words bs.length → g < n₀) (h0 : J [] W) :
    CallsIn Fence.wide n Try.prog 44 #[.func (.yield l) #[] #[], .pointer (some ⟨Bn, 0, none⟩)] W fun e W' => (∃ v, e = .returned v) ∧
      ((∃ ys, ys = placesTo bs bs.length ∧ J ys W') ∨ (∃ pre, pre <+: placesTo bs bs.length ∧ Jx pre W')) := by
  have hl := hv.len
  have c0 := hv.hn
  have cB := hBn.cell
  refine callsIn_of_wp Try.func44 rfl trivial ?_ rfl
  simp only [Try.ntmps44, List.size_toArray, List.length_cons, List.length_nil, Nat.reduceAdd, Nat.reduceSub, Array.replicate_succ, Array.replicate_zero, List.push_toArray, List.append_toArray, List.nil_append, List.cons_append]
  gi_wp2
  gi_loopw [8] (fun i wr => ∃ k : Nat, k ≤ bs.length ∧ i = .int .i64 k ∧ Boxed wr Bn 24 (.pointer (some ⟨b, 0, none⟩)) ∧ VecAt wr b g h bs ∧ J (placesTo bs k) wr) (fun i _ => bs.length - (intOf i).toNat)
  case atStart => exact ⟨0, Nat.zero_le _, rfl, hBn, hv, h0⟩
  case round =>
    obtain ⟨k, hk, rfl, hBr, hvr, hJr⟩ := hrel
    have cBr := hBr.cell
    by_cases hlt : k < bs.length
    · have HG := Lib.hid (get_any wr b g h bs hvr k)
      have hpl : (placesTo bs k).length < bs.length := by
        have := List.length_filter_le (fun i => (bs[i]?).getD false) (List.range k)
        simp only [List.length_range] at this
        unfold placesTo
        omega
      have HY := Lib.hid (hY (placesTo bs k) k wr hJr hpl)
      have HJ := Lib.hid hJr
      have HV := Lib.hid hvr
      clear hY hJr hvr hv
      cases hbk : (bs[k]?).getD false
      · have HE := Lib.hid (show bitAt bs k = false by simp [bitAt, hbk])
        have HM := Lib.hid (placesTo_miss bs k hbk)
        clear hbk
        gi_wp2_with (refine ⟨trivial, ?_⟩; gi_at_call 14; refine (callsIn_wide.2 HG.out).mono ?_; rintro e w' ⟨rfl, rfl⟩; rw [HE.out])
        refine ⟨fun _ h => (by cases h), ?_⟩
        gi_wp2
        go_roundw
        case rel => exact ⟨k + 1, by omega, by go_num, hBr, HV.out, by rw [HM.out]; exact HJ.out⟩
        case measure => simp [intOf]; omega
      · have HE := Lib.hid (show bitAt bs k = true by simp [bitAt, hbk])
        have HM := Lib.hid (placesTo_hit bs k hbk)
        clear hbk
        gi_wp2_with (refine ⟨trivial, ?_⟩; gi_at_call 14; refine (callsIn_wide.2 HG.out).mono ?_; rintro e w' ⟨rfl, rfl⟩; rw [HE.out])
        obtain ⟨fn, tmps, assign, body, hy, hR⟩ := HY.out
        gi_wp2
        rw [hy]
        gi_wp2
        refine hR.mono ?_
        rintro e W3 (⟨rfl, hJ3, hk3⟩ | ⟨rfl, hJx3⟩)
        · have H1 := Lib.hid (hk3.2 hBr)
          have H2 := Lib.hid (HV.out.below hb hh hg hk3.1)
          have H3 := Lib.hid hJ3
          clear hk3 hJ3
          gi_wp2
          go_roundw
          case rel => exact ⟨k + 1, by omega, by go_num, H1.out, H2.out, by rw [HM.out]; exact H3.out⟩
          case measure => simp [intOf]; omega
        · have H3 := Lib.hid hJx3
          clear hJx3
          gi_wp2
          refine bodyPost_ret (results_none rfl _ _ _) rfl ?_
          exact ⟨⟨_, rfl⟩, .inr ⟨placesTo bs k ++ [k], by rw [← HM.out]; exact placesTo_pre bs (by omega), H3.out⟩⟩
    · gi_wp2
      go_end0
      obtain rfl : k = bs.length := by omega
      exact ⟨⟨_, rfl⟩, .inl ⟨_, rfl, hJr⟩⟩

theorem ones_stops (n : Nat) (hn : 1 ≤ n) (Bn n₀ b g h : Nat) (bs : List Bool) (w : World) (hBw : Boxed w Bn 24 (.pointer (some ⟨b, 0, none⟩))) (hn₀ : n₀ ≤ w.heap.size) (hv : VecAt w b g h bs) (hb : b < n₀) (hh : h < n₀) (hg : 0 < words bs.length → g < n₀) :
    SeqStopsK Fence.wide n Try.prog 44 #[.pointer (some ⟨Bn, 0, none⟩)] (fun x : Nat => #[Value.int .i64 (x : Int)]) (KpV n₀ Bn (.pointer (some ⟨b, 0, none⟩))) (fun ys => ys = placesTo bs bs.length) (fun pre => pre <+: placesTo bs bs.length) bs.length w := fun l J Jx W hW _ _ hY h0 =>
  ones1_in n hn l Bn n₀ b g h bs J Jx hY W ((hW.block Bn hBw.lt).trans hBw) (hv.below hb hh hg (hW.mono hn₀)) hb hh hg h0

set_option maxHeartbeats 1000000 in
theorem Ones_in (n : Nat) (p : Option Addr) (w : World) :
    CallsIn Fence.wide n Try.prog 36 #[.pointer p] w fun e w' => e = .returned (.func (.func 44) #[] #[.pointer (some ⟨w.heap.size, 0, none⟩)]) ∧ w' = w.alloc (.cells #[.pointer p] 24) := by
  refine callsIn_of_wp Try.func36 rfl trivial ?_ rfl
  simp only [Try.ntmps36, List.size_toArray, List.length_cons, List.length_nil, Nat.reduceAdd, Nat.reduceSub, Array.replicate_succ, Array.replicate_zero, List.push_toArray, List.append_toArray, List.nil_append, List.cons_append]
  gi_wp2
  go_ret
  exact ⟨rfl, rfl⟩

theorem run_eql_func_nil (f : Fn) (A B : Array Value) (W : World) : (binOp .eql 60 (.func f A B) .nilFunc).run Try.prog W = .ok (.bool false) W := by kernel_rfl

/-- 'out = append(out, ..)', out in a box below the row's base: what the box and the row hold behind it; every other box below the base holds what it held -/
theorem boxed_appended {W w1 : World} {base B : Nat} {t e : TypeId} {size : Nat} {v v' : Value} {k m : Nat} {xs ys : List Value} {tmp : Obj}
    (hv : Boxed W B t v) (hBb : B < base) (hrow : W.ownsRow base e size v k xs) (hbase : base ≤ W.heap.size) (hown' : w1.ownsRow base e size v' m ys) (hgrow : (W.alloc tmp).grownBy w1 v.ownBlock) :
    Boxed w1 B t v ∧ Boxed (w1.setCell ⟨B, 0, none⟩ v') B t v' ∧ (w1.setCell ⟨B, 0, none⟩ v').ownsRow base e size v' m ys ∧ KeepsOthers W (w1.setCell ⟨B, 0, none⟩ v') ∧
      (∀ n₀, n₀ ≤ B → Below n₀ W (w1.setCell ⟨B, 0, none⟩ v')) ∧ ∀ C t' u, C ≠ B → C < base → Boxed W C t' u → Boxed (w1.setCell ⟨B, 0, none⟩ v') C t' u := by
  have hne : ∀ C, C < base → some C ≠ v.ownBlock := fun C hC e' => by have := (hrow.lt C e'.symm).1; omega
  have hne' : ∀ C, C < base → some C ≠ v'.ownBlock := fun C hC e' => by have := (hown'.lt C e'.symm).1; omega
  have hv1 : Boxed w1 B t v := (hv.alloc tmp).kept hgrow (hne B hBb)
  refine ⟨hv1, hv1.set v', hown'.kept (grownBy_setCell' w1 B v') (.inr (hne' B hBb).symm), ?_, fun n₀ hn => ?_, fun C t' u hCB hC hb => ?_⟩
  · refine ((KeepsOthers.alloc W tmp).trans (KeepsOthers.of_grownBy hgrow fun j o ej hj => ?_)).trans (KeepsOthers.setCell _ _ _)
    rcases (hrow.alloc tmp).2 with ⟨rfl, _⟩ | ⟨g, cap, cur, rfl, _, hgb, _⟩
    · simp [Value.ownBlock] at ej
    · obtain rfl : g = j := by simpa [Value.ownBlock] using ej
      rw [hgb] at hj; cases hj; rfl
  · refine (((Below.refl n₀ W).alloc (by omega) tmp).grown hgrow (by simp; omega) fun j ej => ?_).setCell (p := ⟨B, 0, none⟩) hn v'
    have := (hrow.lt j ej).1
    omega
  · exact ((hb.alloc tmp).kept hgrow (hne C hC)).kept (grownBy_setCell' w1 B v') (fun e' => hCB (by simpa using e'))

theorem ownsRow_mono {w : World} {base base' : Nat} {e : TypeId} {size : Nat} {v : Value} {n : Nat} {xs : List Value} (h : w.ownsRow base e size v n xs) (hb : base' ≤ base) : w.ownsRow base' e size v n xs := by
  refine ⟨h.1, ?_⟩
  rcases h.2 with h | ⟨g, cap, cur, hv, hg, r⟩
  · exact .inl h
  · exact .inr ⟨g, cap, cur, hv, by omega, r⟩

set_option maxRecDepth 100000 in
set_option maxHeartbeats 2000000 in
theorem ones_in (n : Nat) (hn : 3 ≤ n) (b g h : Nat) (bs : List Bool) (most : Nat) (hm : most ≤ 1048576) (w : World) (hv : VecAt w b g h bs) :
    CallsIn Fence.wide n Try.prog 18 #[.pointer (some ⟨b, 0, none⟩), .int .i64 most] w fun e W' => ∃ v, e = .returned v ∧ W'.ownsRow w.heap.size 3 1 v ((placesTo bs bs.length).take most).length (((placesTo bs bs.length).take most).map fun x : Nat => Value.int .i64 (x : Int)) ∧ Below w.heap.size w W' := by
  have h1 : 1 ≤ n := by omega
  obtain ⟨i0, hi, hz0, hz1, hz2⟩ := info_parts info3
  refine callsIn_of_wp_marks Try.func18 rfl trivial ?_ rfl
  simp only [Try.ntmps18, List.size_toArray, List.length_cons, List.length_nil, Nat.reduceAdd, Nat.reduceSub, Array.replicate_succ, Array.replicate_zero, List.push_toArray, List.append_toArray, List.nil_append, List.cons_append]
  have hfn := run_eql_func_nil
  gi_wp2_with (refine ⟨trivial, ?_⟩; gi_at_call 36; refine (Ones_in (n - 1) _ _).mono ?_; rintro e w' ⟨rfl, rfl⟩)
  have bM := Boxed.new w 3 (.int .i64 most)
  have bO := Boxed.new (w.alloc (.cells #[.int .i64 most] 3)) 32 (.slice none 0 0)
  have bV := Boxed.new ((w.alloc (.cells #[.int .i64 most] 3)).alloc (.cells #[.slice none 0 0] 32)) 24 (.pointer (some ⟨b, 0, none⟩))
  rw [World.size_alloc] at bO
  rw [World.size_alloc, World.size_alloc] at bV
  have hB0 : Below w.heap.size w (((w.alloc (.cells #[.int .i64 most] 3)).alloc (.cells #[.slice none 0 0] 32)).alloc (.cells #[.pointer (some ⟨b, 0, none⟩)] 24)) := (((Below.refl _ w).alloc (Nat.le_refl _) _).alloc (by simp) _).alloc (by simp; omega) _
  obtain ⟨l1, l2, l3⟩ := hv.lt
  have hv3 := hv.below l1 l2 l3 hB0
  have hlen : (placesTo bs bs.length).length ≤ 100000 := Nat.le_trans (List.length_filter_le _ _) (by simpa using hv.len)
  have hvl := hv.len
  refine wpIn_rangeFunc_ownG rfl h1 (gf := 44) (lb := #[.pointer (some ⟨w.heap.size + 1 + 1, 0, none⟩)]) rfl trivial (enters_of Try.func44 (by kernel_rfl) rfl)
    (ones_stops (n - 1) (by omega) (w.heap.size + 1 + 1) w.heap.size b g h bs _ bV (by simp; omega) hv3 l1 l2 l3) KpV.trans (KpV.turn (by simp; omega) (by simp)) (Below.refl _ _) (fun _ => rfl)
    (fun pre W => (∃ v, Boxed W (w.heap.size + 1) 32 v ∧ W.ownsRow (w.heap.size + 3) 3 1 v pre.length (pre.map fun x : Nat => Value.int .i64 (x : Int)) ∧ pre.length ≤ most) ∧ Boxed W w.heap.size 3 (.int .i64 most) ∧ Boxed W (w.heap.size + 1 + 1) 24 (.pointer (some ⟨b, 0, none⟩)) ∧ Below w.heap.size w W)
    (fun c pre W => (∃ v, Boxed W (w.heap.size + 1) 32 v ∧ W.ownsRow (w.heap.size + 3) 3 1 v (pre.take most).length ((pre.take most).map fun x : Nat => Value.int .i64 (x : Int)) ∧ (c = .exit 0 ∧ most ≤ pre.length)) ∧ Below w.heap.size w W)
    (OwnFrom.and (Own.from (holdsRow_own (w.heap.size + 3) (w.heap.size + 1) 32 3 1 (fun pre : List Nat => pre.length) (fun pre => pre.map fun x : Nat => Value.int .i64 (x : Int)) (fun pre v => pre.length ≤ most)) _) (OwnFrom.and (fun s A B row hs hg hr => hs.kept hg (fun e' => by
      obtain ⟨_, o, ho, hc⟩ := hr _ e'.symm
      rw [show A.heap[w.heap.size]? = _ from hs] at ho; cases ho; cases hc)) (OwnFrom.and (fun s A B row hs hg hr => hs.kept hg (fun e' => by
      obtain ⟨_, o, ho, hc⟩ := hr _ e'.symm
      rw [show A.heap[w.heap.size + 1 + 1]? = _ from hs] at ho; cases ho; cases hc)) (ownFrom_below (Nat.le_refl _) (by simp; omega)))))
    (fun c => OwnFrom.and (Own.from (holdsRow_own (w.heap.size + 3) (w.heap.size + 1) 32 3 1 (fun pre : List Nat => (pre.take most).length) (fun pre => (pre.take most).map fun x : Nat => Value.int .i64 (x : Int)) (fun pre v => c = .exit 0 ∧ most ≤ pre.length)) _) (ownFrom_below (Nat.le_refl _) (by simp; omega)))
    ⟨⟨_, bO.alloc _, World.ownsRow_nil _ _ _ _, Nat.zero_le _⟩, (bM.alloc _).alloc _, bV, hB0⟩
    (fun x => { tmps := #[.pointer (some ⟨b, 0, none⟩), .int .i64 most, undef, .pointer (some ⟨w.heap.size, 0, none⟩), .slice none 0 0, .pointer (some ⟨w.heap.size + 1, 0, none⟩), .func (.func 44) #[] #[.pointer (some ⟨w.heap.size + 1 + 1, 0, none⟩)],
      .int .i64 (x : Int), .pointer (some ⟨b, 0, none⟩), .func (.func 44) #[] #[.pointer (some ⟨w.heap.size + 1 + 1, 0, none⟩)], .func (.func 44) #[] #[.pointer (some ⟨w.heap.size + 1 + 1, 0, none⟩)], .bool false,
      .func (.func 44) #[] #[.pointer (some ⟨w.heap.size + 1 + 1, 0, none⟩)], .int .i64 (x : Int), undef, undef, undef, undef, undef, undef, undef, undef, undef], defers := [] }) ?assign ?body ?done ?stop
  case assign =>
    intro l x W K hK
    gi_wp2
    exact hK
  case body =>
    rintro l pre x W ⟨⟨v, hv', hrow, hpm⟩, hM, hV, hB⟩ hlt
    have hs3 := hV.lt
    have hc := hv'.cell
    have hcM := hM.cell
    have hsz := hB.size
    obtain ⟨p, cap, hvv⟩ : ∃ p cap, v = .slice p pre.length cap := by
      rcases hrow.2 with ⟨rfl, h0⟩ | ⟨g, cap, cur, rfl, _⟩
      · exact ⟨none, 0, by rw [h0]⟩
      · exact ⟨_, cap, rfl⟩
    subst hvv
    by_cases hge : most ≤ pre.length
    · gi_wp2
      have e : (pre ++ [x]).take most = pre := by rw [List.take_append_of_le_length hge, List.take_of_length_le hpm]
      exact ⟨KeepsFrom.refl _ _, ⟨_, hv', by rw [e]; exact hrow, rfl, by simp; omega⟩, hB⟩
    · gi_wp2_with (gi_at_builtin; refine wpListIn_append_own _ rfl _ _ 32 rfl (w.heap.size + 3) 3 i0 (.int .i64 0) 1 8 Try.underlying32 hi hz0 hz1 hz2 rfl (by decide) _ _ _ rfl (hrow.alloc _) ⟨W.heap.size, 0, none⟩ 1 1 [.int .i64 (x : Int)] rfl rfl (cell_one_new _ _ _) (by simp [Value.oneCell']) (by unfold maxLen; omega) (by omega) (by simp; omega) ?_; intro v' w1 hown' hgrow _; obtain ⟨g', cap', rfl⟩ := ownsRow_succ hown'; obtain ⟨hv1, hv2, hr2, hk2, hb2, hx2⟩ := boxed_appended hv' (by omega) hrow hs3 hown' hgrow; have hc1 := hv1.cell; have hf1 := hv1.frozen)
      exact ⟨hk2.from _, ⟨hb2 _ (by omega), fun x => hx2 _ _ _ (by omega) (by omega) x⟩, ⟨_, hv2, by simpa using hr2, by simp; omega⟩, hx2 _ _ _ (by omega) (by omega) hM, hx2 _ _ _ (by omega) (by omega) hV, hB.trans (hb2 _ (by omega))⟩
  case done =>
    rintro D ys W hD rfl ⟨⟨v, hv', hrow, hpm⟩, hM, hV, hB⟩ hK
    have hc := hv'.cell
    gi_wp2
    refine ⟨by simp, .inl ⟨_, _, rfl, run_takeDeferred hK, ?_⟩⟩
    refine ⟨_, results_tmp rfl _ _ _, v, rfl, ?_, hB.trans (belowK_b (w := w) (Nat.le_refl _) W D _ _ (by simp at hD; omega) hK rfl rfl)⟩
    rw [List.take_of_length_le hpm]
    exact ownsRow_mono (ownsRow_putObj hrow _ hK rfl) (by omega)
  case stop =>
    rintro D c pre W hD hpre ⟨⟨v, hv', hrow, rfl, hge⟩, hB⟩ hK
    have hc := hv'.cell
    gi_wp2
    refine ⟨by simp, .inl ⟨_, _, rfl, run_takeDeferred hK, ?_⟩⟩
    refine ⟨_, results_tmp rfl _ _ _, v, rfl, ?_, hB.trans (belowK_b (w := w) (Nat.le_refl _) W D _ _ (by simp at hD; omega) hK rfl rfl)⟩
    obtain ⟨t, ht⟩ := hpre
    rw [← ht, List.take_append_of_le_length hge]
    exact ownsRow_mono (ownsRow_putObj hrow _ hK rfl) (by omega)

/-- what ones tells: the places of the bits that are set, at most so many -/
def MadeOnes (ps : List Nat) (w : World) (e : Ending) (w' : World) : Prop :=
  ∃ v, e = .returned v ∧ w'.ownsRow w.heap.size 3 1 v ps.length (ps.map fun x : Nat => Value.int .i64 (x : Int)) ∧ Below w.heap.size w w'
theorem ones_any (b g h : Nat) (bs : List Bool) (most : Nat) (hm : most ≤ 1048576) (w : World) (hv : VecAt w b g h bs) :
    Calls Try.prog 18 #[.pointer (some ⟨b, 0, none⟩), .int .i64 most] w (MadeOnes ((placesTo bs bs.length).take most) w) :=
  callsIn_wide.1 (ones_in 3 (by omega) b g h bs most hm w hv)
end Go.Proofs.Ytekpjfbhhfcjnaa
