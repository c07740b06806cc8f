/- The contract of concordancelaw8.all. -/
import Derived.Test.YtekpjfbhhfcjnaaWaveAll
namespace Go.Proofs.Ytekpjfbhhfcjnaa
open Go.RowKit Go.Shelf Go.Proofs

attribute [local go_sem] Oper.semAt_some

/-- symbols as ints -/
def intV (l : List Nat) : List Value := l.map fun x : Nat => Value.int .i64 (x : Int)

/-- behind the two stores of the results -/
theorem all_fin {w W : World} {D k s : Nat} {v : Value} {xs : List Value} {r1 : Value} {r2 : Value} (hs : s = w.heap.size) (hD : s + 5 ≤ D) (hrow : W.ownsRow (s + 5) 3 1 v k xs) (hR1 : Boxed W (s + 1) 32 r1) (hR2 : Boxed W (s + 1 + 1) 4 r2)
    (hB : Below s w W) (hK : W.heap[D]? = some (.deferred (some []))) :
    Boxed (W.setCell ⟨s + 1, 0, none⟩ v) (s + 1 + 1) 4 r2 ∧ ((W.setCell ⟨s + 1, 0, none⟩ v).setCell ⟨s + 1 + 1, 0, none⟩ (.bool true)).heap[D]? = some (.deferred (some [])) ∧
    Boxed (((W.setCell ⟨s + 1, 0, none⟩ v).setCell ⟨s + 1 + 1, 0, none⟩ (.bool true)).putObj D (.deferred none)) (s + 1) 32 v ∧
    Boxed (((W.setCell ⟨s + 1, 0, none⟩ v).setCell ⟨s + 1 + 1, 0, none⟩ (.bool true)).putObj D (.deferred none)) (s + 1 + 1) 4 (.bool true) ∧
    (((W.setCell ⟨s + 1, 0, none⟩ v).setCell ⟨s + 1 + 1, 0, none⟩ (.bool true)).putObj D (.deferred none)).ownsRow s 3 1 v k xs ∧
    Below s w (((W.setCell ⟨s + 1, 0, none⟩ v).setCell ⟨s + 1 + 1, 0, none⟩ (.bool true)).putObj D (.deferred none)) := by
  have h1 := hR2.kept (grownBy_setCell' W (s + 1) v) (fun e => by simp only [Option.some.injEq] at e; omega)
  have h2 := ((KeepsOthers.setCell W ⟨s + 1, 0, none⟩ v).trans (KeepsOthers.setCell _ ⟨s + 1 + 1, 0, none⟩ (.bool true))).same D _ hK rfl
  have h3 := (hR1.set v).kept (grownBy_setCell' _ (s + 1 + 1) (.bool true)) (fun e => by simp only [Option.some.injEq] at e; omega)
  have h4 := h1.set (.bool true)
  have h5 := ownsRow_set2 (ownsRow_set2 hrow (s + 1) 0 v (by omega)) (s + 1 + 1) 0 (.bool true) (by omega)
  have h6 : Below s w ((W.setCell ⟨s + 1, 0, none⟩ v).setCell ⟨s + 1 + 1, 0, none⟩ (.bool true)) := (hB.setCell (by show s ≤ s + 1; omega) _).setCell (by show s ≤ s + 1 + 1; omega) _
  exact ⟨h1, h2, h3.kept (grownBy_putObj' _ D _) (fun e => by simp only [Option.some.injEq] at e; omega), h4.kept (grownBy_putObj' _ D _) (fun e => by simp only [Option.some.injEq] at e; omega), ownsRow_mono (ownsRow_putObj h5 _ h2 rfl) (by omega),
    h6.trans (belowK_b (w := w) (by omega) _ D _ _ (by omega) h2 rfl rfl)⟩

set_option maxRecDepth 100000 in
set_option maxHeartbeats 2000000 in
theorem all_in (n : Nat) (hn : 3 ≤ n) (b : Nat) (ls : List Nat) (most : Nat) (hm : most ≤ 1048576) (w : World) (m : MatAt w b ls) :
    CallsIn Fence.wide n Try.prog 31 #[.pointer (some ⟨b, 0, none⟩), .int .i64 most] w fun e W' => ∃ v, e = .returned (.tuple #[v, .bool true]) ∧ W'.ownsRow w.heap.size 3 1 v (ls.take most).length (intV (ls.take most)) ∧ Below w.heap.size w W' := by
  have h1 : 1 ≤ n := by omega
  obtain ⟨i0, hi, hz0, hz1, hz2⟩ := info_parts info3
  have hfn := run_eql_func_nil73
  refine callsIn_of_wp_marks Try.func31 rfl trivial ?_ rfl
  simp only [Try.ntmps31, List.size_toArray, List.length_cons, List.length_nil, Nat.reduceAdd, Nat.reduceSub, Array.replicate_succ, Array.replicate_zero, List.push_toArray, List.append_toArray, List.nil_append, List.cons_append]
  gi_wp2_with (refine ⟨trivial, ?_⟩; gi_at_call 43; refine (All_in (n - 1) _ _).mono ?_; rintro e w' ⟨rfl, rfl⟩)
  have bM := Boxed.new w 3 (.int .i64 most)
  have bR1 := Boxed.new (w.alloc (.cells #[.int .i64 most] 3)) 32 (.slice none 0 0)
  have bR2 := Boxed.new ((w.alloc (.cells #[.int .i64 most] 3)).alloc (.cells #[.slice none 0 0] 32)) 4 (.bool false)
  have bO := Boxed.new (((w.alloc (.cells #[.int .i64 most] 3)).alloc (.cells #[.slice none 0 0] 32)).alloc (.cells #[.bool false] 4)) 32 (.slice none 0 0)
  have bV := Boxed.new ((((w.alloc (.cells #[.int .i64 most] 3)).alloc (.cells #[.slice none 0 0] 32)).alloc (.cells #[.bool false] 4)).alloc (.cells #[.slice none 0 0] 32)) 43 (.pointer (some ⟨b, 0, none⟩))
  simp only [World.size_alloc] at bR1 bR2 bO bV
  have hB0 : Below w.heap.size w (((((w.alloc (.cells #[.int .i64 most] 3)).alloc (.cells #[.slice none 0 0] 32)).alloc (.cells #[.bool false] 4)).alloc (.cells #[.slice none 0 0] 32)).alloc (.cells #[.pointer (some ⟨b, 0, none⟩)] 43)) :=
    (((((Below.refl _ w).alloc (Nat.le_refl _) _).alloc (by simp) _).alloc (by simp; omega) _).alloc (by simp; omega) _).alloc (by simp; omega) _
  have hlen := m.len
  refine wpIn_rangeFunc_ownG rfl h1 (gf := 46) (lb := #[.pointer (some ⟨w.heap.size + 1 + 1 + 1 + 1, 0, none⟩)]) rfl trivial (enters_of Try.func46 (by kernel_rfl) rfl)
    (all_stops (n - 1) (by omega) (w.heap.size + 1 + 1 + 1 + 1) b ls w _ m bV hB0) KpM.trans (KpM.turn (by simp; omega) (by simp)) (Below.refl _ _) (fun _ => rfl)
    (fun pre W => (∃ v, Boxed W (w.heap.size + 1 + 1 + 1) 32 v ∧ W.ownsRow (w.heap.size + 5) 3 1 v pre.length (intV (pre.map (·.2))) ∧ pre.length ≤ most) ∧ Boxed W w.heap.size 3 (.int .i64 most) ∧ Boxed W (w.heap.size + 1) 32 (.slice none 0 0) ∧ Boxed W (w.heap.size + 1 + 1) 4 (.bool false) ∧ Boxed W (w.heap.size + 1 + 1 + 1 + 1) 43 (.pointer (some ⟨b, 0, none⟩)) ∧ Below w.heap.size w W)
    (fun c pre W => (∃ v, Boxed W (w.heap.size + 1 + 1 + 1) 32 v ∧ W.ownsRow (w.heap.size + 5) 3 1 v pre.dropLast.length (intV (pre.dropLast.map (·.2))) ∧ ((c = .exit 0 ∧ most = pre.dropLast.length) ∨ ¬ pre <+: pairsTo ls ls.length)) ∧ Boxed W (w.heap.size + 1) 32 (.slice none 0 0) ∧ Boxed W (w.heap.size + 1 + 1) 4 (.bool false) ∧ Below w.heap.size w W)
    (OwnFrom.and (Own.from (holdsRow_own (w.heap.size + 5) (w.heap.size + 1 + 1 + 1) 32 3 1 (fun pre : List (Nat × Nat) => pre.length) (fun pre => intV (pre.map (·.2))) (fun pre v => pre.length ≤ most)) _) (OwnFrom.and boxed_from (OwnFrom.and boxed_from (OwnFrom.and boxed_from (OwnFrom.and boxed_from (ownFrom_below (Nat.le_refl _) (by simp; omega)))))))
    (fun c => OwnFrom.and (Own.from (holdsRow_own (w.heap.size + 5) (w.heap.size + 1 + 1 + 1) 32 3 1 (fun pre : List (Nat × Nat) => pre.dropLast.length) (fun pre => intV (pre.dropLast.map (·.2))) (fun pre v => (c = .exit 0 ∧ most = pre.dropLast.length) ∨ ¬ pre <+: pairsTo ls ls.length)) _) (OwnFrom.and boxed_from (OwnFrom.and boxed_from (ownFrom_below (Nat.le_refl _) (by simp; omega)))))
    ⟨⟨_, bO.alloc _, World.ownsRow_nil _ _ _ _, Nat.zero_le _⟩, (((bM.alloc _).alloc _).alloc _).alloc _, ((bR1.alloc _).alloc _).alloc _, (bR2.alloc _).alloc _, bV, hB0⟩
    (fun x => { tmps := #[.pointer (some ⟨b, 0, none⟩), .int .i64 most, undef, .pointer (some ⟨w.heap.size, 0, none⟩), .pointer (some ⟨w.heap.size + 1, 0, none⟩), .pointer (some ⟨w.heap.size + 1 + 1, 0, none⟩), .pointer (some ⟨w.heap.size + 1 + 1 + 1, 0, none⟩),
      .func (.func 46) #[] #[.pointer (some ⟨w.heap.size + 1 + 1 + 1 + 1, 0, none⟩)], .int .i64 (x.1 : Int), .int .i64 (x.2 : Int), .pointer (some ⟨b, 0, none⟩), .func (.func 46) #[] #[.pointer (some ⟨w.heap.size + 1 + 1 + 1 + 1, 0, none⟩)],
      .func (.func 46) #[] #[.pointer (some ⟨w.heap.size + 1 + 1 + 1 + 1, 0, none⟩)], .bool false, .func (.func 46) #[] #[.pointer (some ⟨w.heap.size + 1 + 1 + 1 + 1, 0, none⟩)], .int .i64 (x.1 : Int), .int .i64 (x.2 : Int), undef, undef, undef, undef, undef, undef, undef, undef, undef, undef, undef, undef, undef], defers := [] }) ?assign ?body ?done ?stop
  case assign =>
    intro l x W K hK
    gi_wp2
    exact hK
  case body =>
    rintro l pre x W ⟨⟨v, hv', hrow, hpm⟩, hM, hR1, hR2, hV, hB⟩ hlt
    have hs3 := hV.lt
    have hc := hv'.cell
    have hcM := hM.cell
    have hsz := hB.size
    have hc1 := hR1.cell
    have hc2 := hR2.cell
    have hf1 := hR1.frozen
    have hf2 := hR2.frozen
    obtain ⟨p, cap, hvv⟩ : ∃ p cap, v = .slice p pre.length cap := by
      rcases hrow.2 with ⟨rfl, h0⟩ | ⟨g, cap, cur, rfl, _⟩
      · exact ⟨none, 0, by rw [h0]⟩
      · exact ⟨_, cap, rfl⟩
    subst hvv
    by_cases hge : most ≤ pre.length
    · gi_wp2
      exact ⟨KeepsFrom.refl _ _, ⟨_, hv', by rw [List.dropLast_concat]; exact hrow, .inl ⟨rfl, by rw [List.dropLast_concat]; omega⟩⟩, hR1, hR2, hB⟩
    · obtain ⟨x1, x2⟩ := x
      by_cases hx : x1 = pre.length
      · subst hx
        gi_wp2_with (gi_at_builtin; refine wpListIn_append_own _ rfl _ _ 32 rfl (w.heap.size + 5) 3 i0 (.int .i64 0) 1 8 Try.underlying32 hi hz0 hz1 hz2 rfl (by decide) _ _ _ rfl (hrow.alloc _) ⟨W.heap.size, 0, none⟩ 1 1 [.int .i64 (x2 : Int)] rfl rfl (cell_one_new _ _ _) (by simp [Value.oneCell']) (by unfold maxLen; omega) (by omega) (by simp; omega) ?_; intro v' w1 hown' hgrow _; obtain ⟨g', cap', rfl⟩ := ownsRow_succ hown'; obtain ⟨hv1, hv2, hr2, hk2, hb2, hx2⟩ := boxed_appended hv' (by omega) hrow (by omega) hown' hgrow; have hd1 := hv1.cell; have hd2 := hv1.frozen)
        exact ⟨hk2.from _, ⟨hb2 _ (by omega), fun x => hx2 _ _ _ (by omega) (by omega) x⟩, ⟨_, hv2, by simpa [intV] using hr2, by simp; omega⟩, hx2 _ _ _ (by omega) (by omega) hM, hx2 _ _ _ (by omega) (by omega) hR1, hx2 _ _ _ (by omega) (by omega) hR2, hx2 _ _ _ (by omega) (by omega) hV, hB.trans (hb2 _ (by omega))⟩
      · have hne : ((x1 : Int) == (pre.length : Int)) = false := beq_eq_false_iff_ne.2 (by omega)
        have hR1' := hR1.set (.slice none 0 0)
        have hR2' := hR2.kept (grownBy_setCell' W (w.heap.size + 1) (.slice none 0 0)) (fun e => by simp only [Option.some.injEq] at e; omega)
        have hv2 := hv'.kept (grownBy_setCell' W (w.heap.size + 1) (.slice none 0 0)) (fun e => by simp only [Option.some.injEq] at e; omega)
        have hrow2 := ownsRow_set2 (ownsRow_set2 hrow (w.heap.size + 1) 0 (.slice none 0 0) (by omega)) (w.heap.size + 1 + 1) 0 (.bool false) (by omega)
        have hd1 := hR2'.cell
        have hd2 := hR2'.frozen
        have hR2'' := hR2'.set (.bool false)
        have hR1'' := hR1'.kept (grownBy_setCell' _ (w.heap.size + 1 + 1) (.bool false)) (fun e => by simp only [Option.some.injEq] at e; omega)
        have hv3 := hv2.kept (grownBy_setCell' _ (w.heap.size + 1 + 1) (.bool false)) (fun e => by simp only [Option.some.injEq] at e; omega)
        have hB2 : Below w.heap.size w ((W.setCell ⟨w.heap.size + 1, 0, none⟩ (.slice none 0 0)).setCell ⟨w.heap.size + 1 + 1, 0, none⟩ (.bool false)) := (hB.setCell (by show w.heap.size ≤ w.heap.size + 1; omega) _).setCell (by show w.heap.size ≤ w.heap.size + 1 + 1; omega) _
        gi_wp2
        exact ⟨((KeepsOthers.setCell _ _ _).trans (KeepsOthers.setCell _ _ _)).from _, ⟨_, hv3, by rw [List.dropLast_concat]; exact hrow2, .inr fun h => hx (pairsTo_at ls _ h)⟩, hR1'', hR2'', hB2⟩
  case done =>
    rintro D ys W hD rfl ⟨⟨v, hv', hrow, hpm⟩, hM, hR1, hR2, hV, hB⟩ hK
    rw [pairsTo_length, pairsTo_snd] at hrow
    rw [pairsTo_length] at hpm
    obtain ⟨sp, sk, sc, rfl⟩ : ∃ sp sk sc, v = .slice sp sk sc := by rcases ownsRow_shape hrow with ⟨h, _⟩ | ⟨g, cap, h, _⟩ <;> exact ⟨_, _, _, h⟩
    obtain ⟨f1, f2, f3, f4, f5, f6⟩ := all_fin rfl (by simpa using hD) hrow hR1 hR2 hB hK
    have hc := hv'.cell
    have hc1 := hR1.cell
    have hf1 := hR1.frozen
    have hd1 := f1.cell
    have hd2 := f1.frozen
    have hk1 := f3.cell
    have hk2 := f4.cell
    gi_wp2
    refine ⟨by simp, .inl ⟨_, _, rfl, run_takeDeferred f2, ?_⟩⟩
    refine ⟨.tuple #[.slice sp sk sc, .bool true], by simp [results, Try.f31, go_sem, hk1, hk2], _, rfl, ?_, f6⟩
    rw [List.take_of_length_le hpm]
    exact f5
  case stop =>
    rintro D c pre W hD hpre ⟨⟨v, hv', hrow, hc⟩, hR1, hR2, hB⟩ hK
    obtain ⟨rfl, hm⟩ := hc.resolve_right fun h => h hpre
    obtain ⟨sp, sk, sc, rfl⟩ : ∃ sp sk sc, v = .slice sp sk sc := by rcases ownsRow_shape hrow with ⟨h, _⟩ | ⟨g, cap, h, _⟩ <;> exact ⟨_, _, _, h⟩
    obtain ⟨f1, f2, f3, f4, f5, f6⟩ := all_fin rfl (by simpa using hD) hrow hR1 hR2 hB hK
    have e : pre.dropLast.map (·.2) = ls.take most := by
      obtain ⟨t, ht⟩ := hpre
      have h1 : (pairsTo ls ls.length).take most = pre.dropLast := by
        rw [← ht, hm, List.dropLast_eq_take, List.length_take, Nat.min_eq_left (by omega), List.take_append_of_le_length (by omega)]
      rw [← h1, List.map_take, pairsTo_snd]
    have hle : pre.dropLast.length = (ls.take most).length := by rw [← e, List.length_map]
    rw [e, hle] at f5
    have HF := Lib.hid f5
    clear e hle f5 hm hpre hrow
    have hc := hv'.cell
    have hc1 := hR1.cell
    have hf1 := hR1.frozen
    have hd1 := f1.cell
    have hd2 := f1.frozen
    have hk1 := f3.cell
    have hk2 := f4.cell
    gi_wp2
    refine ⟨by simp, .inl ⟨_, _, rfl, run_takeDeferred f2, ?_⟩⟩
    refine ⟨.tuple #[.slice sp sk sc, .bool true], by simp [results, Try.f31, go_sem, hk1, hk2], _, rfl, ?_, f6⟩
    have hF := HF.out
    rwa [List.length_take] at hF

/-- what all tells: the row's symbols, at most so many -/
def MadeAll (ls : List Nat) (w : World) (e : Ending) (w' : World) : Prop :=
  ∃ v, e = .returned (.tuple #[v, .bool true]) ∧ w'.ownsRow w.heap.size 3 1 v ls.length (intV ls) ∧ Below w.heap.size w w'
theorem all_any (b : Nat) (ls : List Nat) (most : Nat) (hm : most ≤ 1048576) (w : World) (m : MatAt w b ls) :
    Calls Try.prog 31 #[.pointer (some ⟨b, 0, none⟩), .int .i64 most] w (MadeAll (ls.take most) w) :=
  callsIn_wide.1 (all_in 3 (by omega) b ls most hm w m)
end Go.Proofs.Ytekpjfbhhfcjnaa
