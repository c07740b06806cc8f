/- The walk of concordancelaw7.BitsJoins: it answers true for every input. -/
import Derived.Test.YtekpjfbhhfcjnaaSame
namespace Go.Proofs.Ytekpjfbhhfcjnaa
open Go.RowKit Go.Proofs

theorem onesAt_left (xs ys : List Bool) (i : Nat) (h : i ≤ xs.length) : onesAt (xs ++ ys) i = onesAt xs i := by
  unfold onesAt; rw [List.take_append_of_le_length h]
theorem onesAt_right (xs ys : List Bool) (i : Nat) (h : xs.length ≤ i) : onesAt (xs ++ ys) i = onesAt xs xs.length + onesAt ys (i - xs.length) := by
  unfold onesAt
  rw [List.take_append, List.take_of_length_le h, cnt_append, List.take_of_length_le (Nat.le_refl _)]
theorem placesTo_left (xs ys : List Bool) : ∀ k, k ≤ xs.length → placesTo (xs ++ ys) k = placesTo xs k
  | 0, _ => by simp [placesTo]
  | k + 1, h => by
    have ih := placesTo_left xs ys k (by omega)
    have e : ((xs ++ ys)[k]?).getD false = (xs[k]?).getD false := by rw [List.getElem?_append_left (by omega)]
    cases hb : (xs[k]?).getD false
    · rw [placesTo_miss _ k (e.trans hb), placesTo_miss _ k hb, ih]
    · rw [placesTo_hit _ k (e.trans hb), placesTo_hit _ k hb, ih]
theorem placesTo_right (xs ys : List Bool) : ∀ k, placesTo (xs ++ ys) (xs.length + k) = placesTo xs xs.length ++ (placesTo ys k).map (· + xs.length)
  | 0 => by rw [Nat.add_zero, placesTo_left xs ys _ (Nat.le_refl _)]; simp [placesTo]
  | k + 1 => by
    have ih := placesTo_right xs ys k
    have e : ((xs ++ ys)[xs.length + k]?).getD false = (ys[k]?).getD false := by rw [List.getElem?_append_right (by omega)]; simp
    rw [show xs.length + (k + 1) = (xs.length + k) + 1 from rfl]
    cases hb : (ys[k]?).getD false
    · rw [placesTo_miss _ _ (e.trans hb), placesTo_miss _ k hb, ih]
    · rw [placesTo_hit _ _ (e.trans hb), placesTo_hit _ k hb, ih]; simp [Nat.add_comm]

theorem placesTo_lt (bs : List Bool) (k : Nat) : ∀ x ∈ placesTo bs k, x < k := by
  intro x hx
  unfold placesTo at hx
  exact List.mem_range.1 (List.mem_filter.1 hx).1
theorem shift_set (ps : List Nat) (L k : Nat) (h : k < ps.length) :
    (((ps.map (· + L)).take k ++ ps.drop k).map fun x : Nat => Value.int .i64 (x : Int)).set k (.int .i64 ((ps[k] : Nat) + (L : Nat) : Int)) = ((ps.map (· + L)).take (k + 1) ++ ps.drop (k + 1)).map fun x : Nat => Value.int .i64 (x : Int) := by
  refine List.ext_getElem? fun j => ?_
  rw [List.getElem?_set]
  simp only [List.getElem?_map, List.getElem?_append, List.length_take, List.length_map, List.getElem?_take, List.getElem?_drop]
  rw [show min k ps.length = k by omega, show min (k + 1) ps.length = k + 1 by omega]
  by_cases e : k = j
  · subst e
    simp only [if_true]
    rw [if_pos (by simp; omega), if_pos (by omega), if_pos (by omega)]
    simp [h]
  · rw [if_neg e]
    by_cases e2 : j < k
    · rw [if_pos e2, if_pos (by omega), if_pos (by omega), if_pos (by omega)]
    · rw [if_neg e2, if_neg (by omega), show k + (j - k) = j by omega, show k + 1 + (j - (k + 1)) = j by omega]
theorem bools_oneCell (bs : List Bool) : ∀ u ∈ bs.map Value.bool, u.oneCell' = true := by
  intro u hu
  obtain ⟨b, _, rfl⟩ := List.mem_map.1 hu
  rfl
theorem nats_oneCell (ps : List Nat) : ∀ u ∈ ps.map (fun x : Nat => Value.int .i64 (x : Int)), u.oneCell' = true := by
  intro u hu
  obtain ⟨b, _, rfl⟩ := List.mem_map.1 hu
  rfl
set_option maxRecDepth 100000 in
set_option maxHeartbeats 1000000 in
theorem joins_walk (p : Option Addr) (cap : Nat) (l : List Bool) (p' : Option Addr) (cap' : Nat) (l' : List Bool) (n i : Int) (w : World) (hlm : l.length ≤ 9223372036854775807) (hc : BoolsAt w p l) (hlm' : l'.length ≤ 9223372036854775807) (hc' : BoolsAt w p' l') (_hn : (Lit.int .i64 n).wf = true) (_hi : (Lit.int .i64 i).wf = true) :
    Calls Try.prog 5 #[.slice p l.length cap, .slice p' l'.length cap', .int .i64 n, .int .i64 i] w (IsTrue w) := by
  obtain ⟨M, hM, hM2⟩ := mask_nat n 9 (by omega)
  rw [show ((2 ^ 9 - 1 : Nat) : Int) = 511 from rfl] at hM
  obtain ⟨M', hM', hM2'⟩ := mask_nat (n / 512) 9 (by omega)
  rw [show ((2 ^ 9 - 1 : Nat) : Int) = 511 from rfl] at hM'
  obtain ⟨I, hI, hI2⟩ := mask_nat i 12 (by omega)
  rw [show ((2 ^ 12 - 1 : Nat) : Int) = 4095 from rfl] at hI
  have HL := Lib.hid (long_any w p cap l M (by omega) hlm hc)
  have HL' := Lib.hid (fun (w1 : World) (hB : Below w.heap.size w w1) => long_any w1 p' cap' l' M' (by omega) hlm' (hc'.below hB))
  have hlo := longOf_length l M
  have hbl : (longOf l M).length ≤ 511 := by omega
  have hlo' := longOf_length l' M'
  have hbl' : (longOf l' M').length ≤ 511 := by omega
  generalize longOf l M = xs at *
  generalize longOf l' M' = ys at *
  obtain ⟨i0, hi, hz0, hz1, hz2⟩ := info_parts info4
  obtain ⟨j0, hj, hy0, hy1, hy2⟩ := info_parts info3
  clear hc hc' hlo hlo' _hn _hi
  go_enter Try.func5, Try.ntmps5
  go_wp2_with fail
  refine HL.out.mono ?_
  rintro e w1 ⟨v, rfl, hown, hB1⟩
  have HO1 := Lib.hid hown
  have HB1 := Lib.hid hB1
  clear hown hB1
  go_wp2_with fail
  refine (HL'.out w1 HB1.out).mono ?_
  rintro e w2 ⟨v', rfl, hown', hB2⟩
  have HO2 := Lib.hid hown'
  have HO1' := Lib.hid (ownsRow_below HO1.out hB2)
  have HB2 := Lib.hid (below_step HB1.out hB2)
  clear hown' hB2
  have hN1 := Lib.hid (World.ownsRow_made (base := w2.heap.size) (e := 4) (size := 1) w2 #[] 0 (Nat.le_refl _) (by unfold maxLen; omega) rfl)
  go_wp2_with (first | (at_builtin; refine wpList_append_row (by rfl) (.tmp 31) (.tmp 32) 22 rfl w2.heap.size 4 i0 (.bool false) 1 1 Try.underlying22 hi hz0 hz1 hz2 rfl (by decide) (.slice (some ⟨w2.heap.size, 0, none⟩) 0 0) 0 [] rfl hN1.out w.heap.size v xs.length _ rfl (HO1'.out.alloc _) (bools_oneCell xs) ?c1 ?c2 ?c3 ?_))
  case c1 => unfold maxLen; omega
  case c2 => omega
  case c3 => simp
  intro v1 w3 hown3 hg3
  have HO3 := Lib.hid hown3
  have HB23 := Lib.hid (((Below.refl w2.heap.size w2).alloc (Nat.le_refl _) (.cells #[] 4)).grown hg3 (by simp) (fun k hk => (hN1.out.lt k hk).1))
  have HO2' := Lib.hid (ownsRow_below HO2.out HB23.out)
  clear hown3 hg3
  have hsz3 := HB23.out.size
  go_wp2_with (first | (at_builtin; refine wpList_append_row (by rfl) (.tmp 33) (.tmp 34) 22 rfl w2.heap.size 4 i0 (.bool false) 1 1 Try.underlying22 hi hz0 hz1 hz2 rfl (by decide) v1 xs.length _ rfl HO3.out w1.heap.size v' ys.length _ rfl HO2'.out (bools_oneCell ys) ?d1 ?d2 ?d3 ?_))
  case d1 => unfold maxLen; omega
  case d2 => omega
  case d3 => exact hsz3
  intro v2 w4 hown4 hg4
  have HB24 := Lib.hid (HB23.out.grown hg4 hsz3 (fun k hk => (HO3.out.lt k hk).1))
  have hZ : w4.ownsRow w2.heap.size 4 1 v2 (xs ++ ys).length ((xs ++ ys).map Value.bool) := by
    rw [List.length_append, List.map_append]
    simpa using hown4
  have HX4 := Lib.hid (ownsRow_below HO1'.out HB24.out)
  have HY4 := Lib.hid (ownsRow_below HO2.out HB24.out)
  have HB4 := Lib.hid (HB2.out.trans (HB24.out.mono HB2.out.size))
  obtain ⟨px, cx, rfl, hx⟩ := bools_of_owns HX4.out
  obtain ⟨py, cy, rfl, hy⟩ := bools_of_owns HY4.out
  obtain ⟨pz, cz, rfl, hz⟩ := bools_of_owns hZ
  have HX := Lib.hid hx
  have HY := Lib.hid hy
  have HZ := Lib.hid hz
  have HLZ := Lib.hid (show (xs ++ ys).length = xs.length + ys.length by simp)
  have HOL := Lib.hid (onesAt_left xs ys)
  have HOR := Lib.hid (onesAt_right xs ys)
  have HPR := Lib.hid (placesTo_right xs ys ys.length)
  generalize hzs : xs ++ ys = zs at *
  clear hown4 hg4 hZ hx hy hz hzs HX4 HY4 HO1 HO1' HO2 HO2' HO3 hN1
  have HN1 := Lib.hid (new_any w4 px cx xs (by omega) HX.out)
  go_wp2_with fail
  refine HN1.out.mono ?_
  rintro e w5 ⟨b1, g1, h1, rfl, hv1, hB5⟩
  have HN2 := Lib.hid (new_any w5 py cy ys (by omega) (HY.out.below hB5))
  have HZ' := Lib.hid (HZ.out.below hB5)
  have HV1 := Lib.hid hv1
  have HB5 := Lib.hid (below_step HB4.out hB5)
  clear hv1 hB5
  go_wp2_with fail
  refine HN2.out.mono ?_
  rintro e w6 ⟨b2, g2, h2, rfl, hv2, hB6⟩
  have HN3 := Lib.hid (new_any w6 pz cz zs (by rw [HLZ.out]; omega) (HZ'.out.below hB6))
  have HV1' := Lib.hid (HV1.out.keep hB6)
  have HV2 := Lib.hid hv2
  have HB6 := Lib.hid (below_step HB5.out hB6)
  clear hv2 hB6
  go_wp2_with fail
  refine HN3.out.mono ?_
  rintro e w7 ⟨b3, g3, h3, rfl, hv3, hB7⟩
  have HVX := Lib.hid (HV1'.out.keep hB7)
  have HVY := Lib.hid (HV2.out.keep hB7)
  have HVZ := Lib.hid hv3
  have HB7 := Lib.hid (below_step HB6.out hB7)
  clear hv3 hB7 HX HY HZ HZ' HV1 HV2 HV1' HB24 HB23
  have hzl : zs.length ≤ 1022 := by rw [HLZ.out]; omega
  have hK : (I : Int) % ((zs.length : Int) + 1) = (I % (zs.length + 1) : Nat) := by simp
  have hKz : I % (zs.length + 1) ≤ zs.length := by have := Nat.mod_lt I (show 0 < zs.length + 1 by omega); omega
  generalize I % (zs.length + 1) = K at *
  have hcl := rank_cl HVX.out K
  have h0 := onesAt_le xs (clampN K xs.length)
  have h0' : clampN K xs.length ≤ xs.length := by unfold clampN; omega
  generalize hc0 : onesAt xs (clampN K xs.length) = c0 at *
  have HC0 := Lib.hid hc0.symm
  clear hc0
  have HCL := Lib.hid hcl
  have HLZ2 := Lib.hid HLZ.out
  clear hcl
  go_wp2_with fail
  refine HCL.out.mono ?_
  rintro e w8 ⟨rfl, m0, rfl⟩
  -- want: by one row, or by both
  obtain ⟨Wt, HRZ, hW0, hW1⟩ : ∃ Wt : Int, Hid (((onesAt zs K : Nat) : Int) = Wt) ∧
      Hid (K ≤ xs.length → Wt = c0) ∧ Hid (xs.length < K → ∃ A B : Nat, A ≤ 511 ∧ B ≤ 511 ∧ Wt = (A : Int) + B ∧
        (∀ m, Calls Try.prog 12 #[.pointer (some ⟨b1, 0, none⟩), .int .i64 xs.length] (w7.drewN m) fun e w' => e = .returned (.int .i64 A) ∧ ∃ n, w' = (w7.drewN m).drewN n) ∧
        (∀ m, Calls Try.prog 12 #[.pointer (some ⟨b2, 0, none⟩), .int .i64 ((K : Int) - xs.length)] (w7.drewN m) fun e w' => e = .returned (.int .i64 B) ∧ ∃ n, w' = (w7.drewN m).drewN n)) := by
    refine ⟨(onesAt zs K : Nat), rfl, fun hk => ?_, fun hk => ?_⟩
    · rw [HOL.out K hk, HC0.out, clampN_in hk]
    · refine ⟨onesAt xs xs.length, onesAt ys (K - xs.length), ?_, ?_, ?_, fun m => rank_at (HVX.out.drewN m) xs.length (Nat.le_refl _), fun m => ?_⟩
      · have := onesAt_le xs xs.length; omega
      · have := onesAt_le ys (K - xs.length)
        have := HLZ.out
        omega
      · rw [HOR.out K (by omega)]; omega
      · have := rank_at (HVY.out.drewN m) (K - xs.length) (by have := HLZ.out; omega)
        rwa [show ((K - xs.length : Nat) : Int) = (K : Int) - xs.length from by omega] at this
  clear HOL HOR HCL HC0 hI hI2 hM hM2 hM' hM2'
  by_cases hkx : xs.length < K
  case' pos =>
    obtain ⟨A, B, hA, hB, rfl, HA, HBB⟩ := hW1.out hkx
    have HA' := Lib.hid HA
    have HBB' := Lib.hid HBB
    clear HA HBB hW0 hW1
    go_wp2_with (first
      | (go_at_call 12; (with_reducible refine (HA'.out _).mono ?_); rintro e w' ⟨rfl, m, rfl⟩)
      | (go_at_call 12; (with_reducible refine (HBB'.out _).mono ?_); rintro e w' ⟨rfl, m, rfl⟩))
    clear HA' HBB'
  case' neg =>
    obtain rfl := hW0.out (by omega)
    clear hW0 hW1
    go_wp2_with fail
  all_goals
    refine (ones_all (HVX.out.drewN _)).mono ?_
    rintro e w8 ⟨vo, rfl, ho, hB8⟩
    have HO := Lib.hid ho
    have HB78 := Lib.hid hB8
    have HVY8 := Lib.hid ((HVY.out.drewN _).keep hB8)
    have HVZ8 := Lib.hid ((HVZ.out.drewN _).keep hB8)
    have HB8 := Lib.hid (below_step (below_drewN HB7.out _) hB8)
    clear ho hB8
    go_wp2_with fail
    refine (ones_all HVY8.out).mono ?_
    rintro e w9 ⟨vp, rfl, hp, hB9⟩
    have hlo : (placesTo xs xs.length).length ≤ 511 := by rw [placesTo_length]; have := onesAt_le xs xs.length; omega
    have hlp : (placesTo ys ys.length).length ≤ 511 := by rw [placesTo_length]; have := onesAt_le ys ys.length; omega
    have HPL := Lib.hid (placesTo_lt ys ys.length)
    have HPZ : Hid (placesTo zs zs.length = placesTo xs xs.length ++ (placesTo ys ys.length).map (· + xs.length)) := by rw [← HLZ2.out] at HPR; exact HPR
    clear HPR
    generalize placesTo xs xs.length = po at *
    generalize placesTo ys ys.length = pp at *
    obtain ⟨qp, cp, hvp⟩ : ∃ q c, vp = .slice q pp.length c := by
      rcases ownsRow_shape hp with ⟨rfl, h⟩ | ⟨g, c, rfl, _⟩
      · exact ⟨none, 0, by rw [h]⟩
      · exact ⟨_, c, rfl⟩
    subst hvp
    have HP := Lib.hid hp
    have HB89 := Lib.hid hB9
    clear hp hB9 HVY8
    go_wp2
    go_loopw [21] (fun i wr => ∃ k : Nat, k ≤ pp.length ∧ i = .int .i64 k ∧ wr.ownsRow w8.heap.size 3 1 (.slice qp pp.length cp) pp.length (((pp.map (· + xs.length)).take k ++ pp.drop k).map fun x : Nat => Value.int .i64 (x : Int)) ∧ Below w8.heap.size w9 wr) (fun i _ => pp.length - (intOf i).toNat)
    case atStart => exact ⟨0, Nat.zero_le _, rfl, by simpa using HP.out, Below.refl _ _⟩
    case round =>
      obtain ⟨k, hk, rfl, hown, hB⟩ := hrel
      by_cases hlt : k < pp.length
      · rcases ownsRow_shape hown with ⟨_, h⟩ | ⟨g, c, hq, hg, _⟩
        · omega
        simp at hq
        obtain ⟨rfl, rfl⟩ := hq
        have hcell := ownsRow_cell hown k (.int .i64 ((pp[k] : Nat) : Int)) (by
          rw [List.getElem?_map, List.getElem?_append_right (by simp; omega)]
          simp [show min k pp.length = k by omega, hlt])
        have hfz := ownsRow_frozen hown k
        have HS := Lib.hid (ownsRow_set hown k (.int .i64 ((pp[k] : Nat) + (xs.length : Nat) : Int)))
        rw [shift_set pp xs.length k hlt] at HS
        have hxk : pp[k] ≤ 511 := by have := HPL.out pp[k] (by simp); omega
        generalize pp[k] = x at *
        have HBr := Lib.hid hB
        clear hown hB
        go_wp2
        go_roundw
        case rel => exact ⟨k + 1, by omega, by go_num, HS.out, HBr.out.setCell hg _⟩
        case measure => simp [intOf]; omega
      · obtain rfl : k = pp.length := by omega
        have HPe : Hid (wr.ownsRow w8.heap.size 3 1 (.slice qp pp.length cp) pp.length ((pp.map (· + xs.length)).map fun x : Nat => Value.int .i64 (x : Int))) := by
          have := hown
          rw [List.take_of_length_le (by simp), List.drop_length, List.append_nil] at this
          exact this
        have HBw := Lib.hid (HB89.out.trans hB)
        have HOw := Lib.hid (ownsRow_below HO.out HBw.out)
        have HVw := Lib.hid (HVZ8.out.keep HBw.out)
        have HBt := Lib.hid (below_step HB8.out HBw.out)
        clear hown hB
        go_wp2_with fail
        refine (rank_at HVw.out K hKz).mono ?_
        rintro e w10 ⟨rfl, m, rfl⟩
        rw [HRZ.out]
        go_wp2_with fail
        refine (ones_all (HVw.out.drewN _)).mono ?_
        rintro e w11 ⟨vu, rfl, hu, hB11⟩
        have HOu := Lib.hid (ownsRow_below (w := wr.drewN m) HOw.out hB11)
        have HPu := Lib.hid (ownsRow_below (w := wr.drewN m) HPe.out hB11)
        have HU := Lib.hid hu
        have HB11 := Lib.hid (below_step (below_drewN HBt.out m) hB11)
        have hs11 := HB11.out.size
        have hsr := hB11.size
        have hsw := HBw.out.size
        simp only [World.heap_drewN] at hsr
        have hs78 := HB78.out.size
        simp only [World.heap_drewN] at hs78
        clear hu hB11
        go_wp2_with (first | (at_builtin; refine wpList_append_row (by rfl) (.tmp 125) (.tmp 126) 32 rfl _ 3 j0 (.int .i64 0) 1 8 Try.underlying32 hj hy0 hy1 hy2 rfl (by decide) _ po.length _ rfl HOu.out _ _ pp.length _ rfl HPu.out (nats_oneCell _) ?e1 ?e2 ?e3 ?_))
        case e1 => unfold maxLen; omega
        case e2 => omega
        case e3 => simp; omega
        intro va w12 hown12 hg12
        have hA12 : w12.ownsRow w7.heap.size 3 1 va (po ++ pp.map (· + xs.length)).length ((po ++ pp.map (· + xs.length)).map fun x : Nat => Value.int .i64 (x : Int)) := by
          rw [List.length_append, List.length_map, List.map_append]
          simpa using hown12
        have hU12 : w12.ownsRow (wr.drewN m).heap.size 3 1 vu (po ++ pp.map (· + xs.length)).length ((po ++ pp.map (· + xs.length)).map fun x : Nat => Value.int .i64 (x : Int)) := by
          rw [← HPZ.out]
          refine HU.out.kept hg12 ?_
          cases hv : vu.ownBlock with
          | none => exact .inl rfl
          | some k =>
            refine .inr fun e' => ?_
            have h1 := (HU.out.lt k hv).1
            have h2 := (HOw.out.lt k e'.symm).2
            simp only [World.heap_drewN] at h1
            omega
        have HB12 := Lib.hid (HB11.out.grown hg12 hs11 (fun k hk => by
          have := (HOu.out.lt k hk).1
          have := HB7.out.size
          simp only [World.heap_drewN] at *
          omega))
        have hlen : (po ++ pp.map (· + xs.length)).length ≤ 9223372036854775807 := by simp; omega
        generalize po ++ pp.map (· + xs.length) = ps at *
        obtain ⟨qa, ca, rfl, ha⟩ := intsAt_of_owns hA12
        obtain ⟨qu, cu, rfl, hu⟩ := intsAt_of_owns hU12
        have HSm := Lib.hid (same_any w12 qu qa cu ca ps hlen hu ha)
        clear hown12 hg12 hA12 hU12 hlen ha hu
        go_wp2_with fail
        refine HSm.out.mono ?_
        rintro e w13 ⟨rfl, m2, rfl⟩
        go_wp2_with (go_at_call 17; (with_reducible refine (awake_any _).mono ?_); rintro e w' ⟨rfl, hb⟩)
        go_ret
        exact ⟨rfl, below_step (below_drewN HB12.out m2) hb⟩
end Go.Proofs.Ytekpjfbhhfcjnaa
