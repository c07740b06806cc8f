/- The walk of concordancelaw7.BitsTells: it answers true for every input. -/
import Derived.Test.YtekpjfbhhfcjnaaSel
namespace Go.Proofs.Ytekpjfbhhfcjnaa
open Go.RowKit Go.Proofs

/-- the two lists that BitsTells gathers, as far as it has come -/
structure Gathered (B : Nat) (w2 : World) (bs cs : List Bool) (c k : Nat) (v1 v2 rk : Value) (wr : World) : Prop where
  on : wr.ownsRow B 3 1 v1 (placesTo bs k).length ((placesTo bs k).map fun x : Nat => Value.int .i64 (x : Int))
  off : wr.ownsRow B 3 1 v2 (placesTo cs k).length ((placesTo cs k).map fun x : Nat => Value.int .i64 (x : Int))
  apart : Apart v1 v2
  rank : rk = .int .i64 (onesAt bs (min k c) : Nat)
  below : Below w2.heap.size w2 wr

theorem rows_next {B : Nat} {w2 wr w3 : World} {va va' vb : Value} {na nb : Nat} {xa xb : List Value} {tmp : Obj} (ha : wr.ownsRow B 3 1 va na xa) (hb : wr.ownsRow B 3 1 vb nb xb) (hap : Apart va vb)
    (hgrow : (wr.alloc tmp).grownBy w3 va.ownBlock) (hat : va'.ownBlock = va.ownBlock ∨ va'.ownBlock = some (wr.heap.size + 1)) (hB : Below B w2 wr) (hs : B ≤ w2.heap.size) :
    w3.ownsRow B 3 1 vb nb xb ∧ Apart va' vb ∧ Below B w2 w3 := by
  refine ⟨(hb.alloc tmp).kept hgrow hap.keeps, Apart.next hap hb (hat.imp id fun e => ⟨_, by omega, e⟩), (hB.alloc (Nat.le_trans hs hB.size) tmp).grown hgrow ?_ fun k hk => (ha.lt k hk).1⟩
  have := hB.size
  simp
  omega

set_option maxRecDepth 100000 in
set_option maxHeartbeats 2000000 in
theorem tells_walk (p : Option Addr) (cap : Nat) (l : List Bool) (n i : Int) (w : World) (hlm : l.length ≤ 9223372036854775807) (hc : BoolsAt w p l) (_hn : (Lit.int .i64 n).wf = true) (_hi : (Lit.int .i64 i).wf = true) :
    Calls Try.prog 6 #[.slice p l.length cap, .int .i64 n, .int .i64 i] w (IsTrue w) := by
  obtain ⟨M, hM, hM2⟩ := mask_nat n 14 (by omega)
  rw [show ((2 ^ 14 - 1 : Nat) : Int) = 16383 from rfl] at hM
  have HL := long_any w p cap l (M % 9000) (by omega) hlm hc
  have hlo := longOf_length l (M % 9000)
  rw [show ((M % 9000 : Nat) : Int) = (M : Int) % 9000 from by omega] at HL
  generalize longOf l (M % 9000) = bs at *
  have HL' := Lib.hid HL
  have hbl : bs.length ≤ 9000 := by omega
  obtain ⟨j0, hj, hy0, hy1, hy2⟩ := info_parts info3
  clear HL hc hlo _hn _hi
  go_enter Try.func6, Try.ntmps6
  go_wp2_with fail
  refine HL'.out.mono ?_
  rintro e w1 ⟨v, rfl, hown, hB1⟩
  obtain ⟨p1, cap1, rfl, hc1⟩ := bools_of_owns hown
  have HN := Lib.hid (new_any w1 p1 cap1 bs (by omega) hc1)
  have HB1 := Lib.hid hB1
  have HC1 := Lib.hid hc1
  clear hown hc1 hB1
  go_wp2_with fail
  refine HN.out.mono ?_
  rintro e w2 ⟨b, g, h, rfl, hv, hB2⟩
  have HV := Lib.hid hv
  have HB := Lib.hid (below_step HB1.out hB2)
  have HC2 := Lib.hid (HC1.out.below hB2)
  clear hv hB2
  go_wp2_with (go_at_call 20; (with_reducible refine (len_any w2 b g h bs HV.out).mono ?_); rintro e w' ⟨rfl, rfl⟩)
  obtain ⟨cs, hcs⟩ : ∃ cs : List Bool, cs = bs.map (!·) := ⟨_, rfl⟩
  have hcl := clamp_cases i bs.length
  have HCl := Lib.hid (show clampN i bs.length ≤ bs.length by unfold clampN; omega)
  obtain ⟨c, hcc⟩ : ∃ c, c = clampN i bs.length := ⟨_, rfl⟩
  rw [← hcc] at hcl
  have HCC := Lib.hid hcc
  have HCS := Lib.hid hcs
  have HCL := Lib.hid hcl
  clear hcc hcs hcl
  go_loopw [10, 11, 12, 13] (fun v1 v2 rk i wr => ∃ k : Nat, k ≤ bs.length ∧ i = .int .i64 k ∧ Gathered w2.heap.size w2 bs cs c k v1 v2 rk wr) (fun _ _ _ i _ => bs.length - (intOf i).toNat)
  case atStart => exact ⟨0, Nat.zero_le _, rfl, World.ownsRow_nil _ _ _ _, World.ownsRow_nil _ _ _ _, fun _ h => by simp [Value.ownBlock] at h, by simp [onesAt, cnt], Below.refl _ _⟩
  case round =>
    obtain ⟨k, hk, rfl, hG⟩ := hrel
    obtain ⟨hon, hoff, hap, rfl, hBr⟩ := hG
    by_cases hlt : k < bs.length
    · rcases HC2.out with hnil | ⟨bb, off, rfl, hb, hc⟩
      · rw [hnil] at hlt; simp at hlt
      have hcell := (hBr.cell (p := ⟨bb, off + k, none⟩) hb).trans (hc k hlt)
      have hlen1 : (placesTo bs k).length ≤ k := by rw [placesTo_length]; exact onesAt_le bs k
      have hlen2 : (placesTo cs k).length ≤ k := by rw [placesTo_length]; exact onesAt_le cs k
      have hck : (cs[k]?).getD false = !(bs[k]?).getD false := by rw [HCS.out]; simp [hlt]
      have hr0 := onesAt_le bs (min k c)
      have HR := Lib.hid (onesAt_succ bs k)
      have hsz := hBr.size
      have HON := Lib.hid hon
      have HOFF := Lib.hid hoff
      have HAP := Lib.hid hap
      have HBr := Lib.hid hBr
      have hki : (i < 0 ∧ c = 0) ∨ (i = c) ∨ ((bs.length : Int) < i ∧ c = bs.length) := by
        rcases HCL.out with ⟨h1, h2⟩ | ⟨h1, h2, h3⟩ | ⟨h1, h2⟩
        · exact .inl ⟨h1, h2⟩
        · exact .inr (.inl h3)
        · exact .inr (.inr ⟨h1, h2⟩)
      clear hon hoff hap hBr hc
      cases hbk : (bs[k]?).getD false
      · rw [hbk] at hcell hck
        have HP1 := Lib.hid (placesTo_miss bs k hbk)
        have HP2 := Lib.hid (placesTo_hit cs k hck)
        have HR2 : Hid (onesAt bs (min (k + 1) c) = onesAt bs (min k c)) := by
          by_cases hkc : k < c
          · have := HR.out
            rw [hbk] at this
            rw [show min (k + 1) c = k + 1 by omega, show min k c = k by omega]
            exact (by simpa using this : onesAt bs (k + 1) = onesAt bs k)
          · rw [show min (k + 1) c = c by omega, show min k c = c by omega]; rfl
        clear hbk hck HR
        generalize onesAt bs (min k c) = r at *
        by_cases hik : (k : Int) < i
        all_goals
          clear hki
          go_wp2_with (first | (at_builtin; refine wpList_append_own_at _ rfl (.tmp 63) (.tmp 65) 32 rfl w2.heap.size 3 j0 (.int .i64 0) 1 8 Try.underlying32 hj hy0 hy1 hy2 rfl (by decide) _ _ _ rfl (HOFF.out.alloc _) ⟨wr.heap.size, 0, none⟩ 1 1 [.int .i64 (k : Int)] rfl rfl (cell_one_new _ _ _) (by simp [Value.oneCell']) ?c1 ?c2 ?c3 ?_))
          case c1 => unfold maxLen; omega
          case c2 => omega
          case c3 => first | omega | (simp; omega)
          intro v' w3 hown' hgrow _ hat
          obtain ⟨hx1, hx2, hx3⟩ := rows_next HOFF.out HON.out HAP.out.symm hgrow hat HBr.out (Nat.le_refl _)
          have HX : Hid (Gathered w2.heap.size w2 bs cs c (k + 1) u10 v' (.int .i64 (r : Nat)) w3) := ⟨by rw [HP1.out]; exact hx1, by rw [HP2.out]; simpa using hown', hx2.symm, by rw [HR2.out], hx3⟩
          clear hown' hgrow hat hx1 hx2 hx3
          go_wp2
          go_roundw
          case rel => exact ⟨k + 1, by omega, by go_num, HX.out⟩
          case measure => simp [intOf]; omega
      · rw [hbk] at hcell hck
        have HP1 := Lib.hid (placesTo_hit bs k hbk)
        have HP2 := Lib.hid (placesTo_miss cs k hck)
        have HRi : Hid (k < c → onesAt bs (min (k + 1) c) = onesAt bs (min k c) + 1) := fun hkc => by
          have := HR.out
          rw [hbk] at this
          rw [show min (k + 1) c = k + 1 by omega, show min k c = k by omega]
          simpa using this
        have HRo : Hid (¬ k < c → onesAt bs (min (k + 1) c) = onesAt bs (min k c)) := fun hkc => by
          rw [show min (k + 1) c = c by omega, show min k c = c by omega]
        clear hbk hck HR
        generalize onesAt bs (min k c) = r at *
        by_cases hik : (k : Int) < i
        all_goals
          have HR2 := Lib.hid (show ((onesAt bs (min (k + 1) c) : Nat) : Int) = if (k : Int) < i then (r : Int) + 1 else r by
            first
              | (rw [if_pos hik, HRi.out (by omega)]; rfl)
              | rw [if_neg hik, HRo.out (by omega)])
          first | rw [if_pos hik] at HR2 | rw [if_neg hik] at HR2
          clear hki HRi HRo
          go_wp2_with (first | (at_builtin; refine wpList_append_own_at _ rfl (.tmp 59) (.tmp 61) 32 rfl w2.heap.size 3 j0 (.int .i64 0) 1 8 Try.underlying32 hj hy0 hy1 hy2 rfl (by decide) _ _ _ rfl (HON.out.alloc _) ⟨wr.heap.size, 0, none⟩ 1 1 [.int .i64 (k : Int)] rfl rfl (cell_one_new _ _ _) (by simp [Value.oneCell']) ?c1 ?c2 ?c3 ?_))
          case c1 => unfold maxLen; omega
          case c2 => omega
          case c3 => first | omega | (simp; omega)
          intro v' w3 hown' hgrow _ hat
          obtain ⟨hx1, hx2, hx3⟩ := rows_next HON.out HOFF.out HAP.out hgrow hat HBr.out (Nat.le_refl _)
          have HX := Lib.hid (fun rk (hrk : rk = .int .i64 (onesAt bs (min (k + 1) c) : Nat)) => (⟨by rw [HP1.out]; simpa using hown', by rw [HP2.out]; exact hx1, hx2, hrk, hx3⟩ : Gathered w2.heap.size w2 bs cs c (k + 1) v' u11 rk w3))
          clear hown' hgrow hat hx1 hx2 hx3
          go_wp2
          go_roundw
          case rel => exact ⟨k + 1, by omega, by go_num, HX.out _ (by rw [HR2.out])⟩
          case measure => simp [intOf]; omega
    · obtain rfl : k = bs.length := by omega
      have HG := Lib.hid (show Gathered w2.heap.size w2 bs cs c bs.length u10 u11 (.int .i64 (onesAt bs (min bs.length c) : Nat)) wr from ⟨hon, hoff, hap, rfl, hBr⟩)
      have hmc : min bs.length c = c := by have := HCl.out; have := HCC.out; omega
      have hle := onesAt_le bs c
      rw [hmc]
      have HV4 := Lib.hid (HV.out.keep hBr)
      have HC4 := Lib.hid (HC2.out.below hBr)
      have HB4 := Lib.hid (below_step HB.out hBr)
      obtain ⟨q1, d1, rfl, h1⟩ := intsAt_of_owns hon
      obtain ⟨q2, d2, rfl, h2⟩ := intsAt_of_owns hoff
      have HI1 := Lib.hid h1
      have HI2 := Lib.hid h2
      have hRZ := ones_zeros bs c
      have hR : Hid (∀ m, Calls Try.prog 12 #[.pointer (some ⟨b, 0, none⟩), .int .i64 i] (wr.drewN m) fun e w' => e = .returned (.int .i64 (onesAt bs c : Nat)) ∧ ∃ n, w' = (wr.drewN m).drewN n) := fun m => by
        have := rank_cl (HV4.out.drewN m) i
        rwa [← HCC.out] at this
      have hZ : Hid (∀ m, Calls Try.prog 13 #[.pointer (some ⟨b, 0, none⟩), .int .i64 i] (wr.drewN m) fun e w' => e = .returned (.int .i64 (zerosAt bs c : Nat)) ∧ ∃ n, w' = (wr.drewN m).drewN n) := fun m => by
        have := zeros_cl (HV4.out.drewN m) i
        rwa [← HCC.out] at this
      have hS1 : Hid (∀ m, Calls Try.prog 15 #[.pointer (some ⟨b, 0, none⟩), .int .i64 i] (wr.drewN m) fun e w' => e = .returned (.int .i64 (selOf (placesTo bs bs.length) i)) ∧ ∃ n, w' = (wr.drewN m).drewN n) := fun m => by
        refine (select_any _ b g h bs (HV4.out.drewN m) i).mono ?_
        rintro e w' ⟨⟨j', rfl, hj'⟩, hw⟩
        exact ⟨ret_int (Found.unique (fun a b h _ => onesAt_mono bs h) (fun _ _ => rfl) hj' (selOf_found bs bs.length i)), hw⟩
      have hS2 : Hid (∀ m, Calls Try.prog 16 #[.pointer (some ⟨b, 0, none⟩), .int .i64 i] (wr.drewN m) fun e w' => e = .returned (.int .i64 (selOf (placesTo cs bs.length) i)) ∧ ∃ n, w' = (wr.drewN m).drewN n) := fun m => by
        refine (select0_any _ b g h bs (HV4.out.drewN m) i).mono ?_
        rintro e w' ⟨⟨j', rfl, hj'⟩, hw⟩
        exact ⟨ret_int (Found.unique (fun a b h _ => zerosAt_mono bs h) (fun a ha => by rw [HCS.out]; exact (not_ones bs a ha).symm) hj' (selOf_found cs bs.length i)), hw⟩
      have hF1 := Lib.hid (fun m => sel_fn (wr.drewN m) q1 d1 (placesTo bs bs.length) i HI1.out (by rw [placesTo_length]; have := onesAt_le bs bs.length; omega))
      have hF2 := Lib.hid (fun m => sel_fn (wr.drewN m) q2 d2 (placesTo cs bs.length) i HI2.out (by rw [placesTo_length]; have := onesAt_le cs bs.length; omega))
      have hGt := Lib.hid (fun m => get_any _ b g h bs (HV4.out.drewN m) i)
      have hO := Lib.hid (fun m => ones_all (HV4.out.drewN m))
      have hlp : (placesTo bs bs.length).length ≤ 9000 := by rw [placesTo_length]; have := onesAt_le bs bs.length; omega
      have hR1 : onesAt bs c + zerosAt bs c ≤ c := by omega
      have hR2 : c ≤ onesAt bs c + zerosAt bs c := by omega
      have hmf : (Instr.makeFunc (Fn.func 21) #[] #[]).run Try.prog wr = .ok (.func (.func 21) #[] #[]) wr := rfl
      generalize onesAt bs c = R at *
      generalize zerosAt bs c = Z at *
      generalize selOf (placesTo bs bs.length) i = S1 at *
      generalize selOf (placesTo cs bs.length) i = S2 at *
      generalize hGe : bitAt bs i = G at *
      have HGe := Lib.hid hGe
      clear hGe
      have hd : decide (bs.length < bs.length) = false := by simp
      clear hon hoff hap hBr h1 h2 hmc HG hRZ hmf
      have HGb := Lib.hid (show 0 ≤ i → i < bs.length → G = (bs[i.toNat]?).getD false from fun a _ => by rw [← HGe.out]; simp [bitAt, a])
      have HGo := Lib.hid (show (i < 0 ∨ (bs.length : Int) ≤ i) → G = false from fun a => by
        rw [← HGe.out]
        rcases a with a | a
        · simp [bitAt]; omega
        · simp [bitAt, List.getElem?_eq_none (show bs.length ≤ i.toNat by omega)])
      by_cases hi0 : i < 0
      case' pos =>
        obtain rfl := HGo.out (.inl hi0)
        have hc0 : c ≤ 0 := by rcases HCL.out with ⟨_, h2⟩ | ⟨h1, _, _⟩ | ⟨h1, _⟩ <;> omega
        go_wp2_with fail
        refine (hR.out 0).mono ?_
        rintro e w4 ⟨rfl, m, rfl⟩
        go_wp2_with (first
          | (go_at_call 13; (with_reducible refine (hZ.out _).mono ?_); rintro e w' ⟨rfl, m, rfl⟩)
          | (go_at_call 15; (with_reducible refine (hS1.out _).mono ?_); rintro e w' ⟨rfl, m, rfl⟩)
          | (go_at_call 21; (with_reducible refine (hF1.out _).mono ?_); rintro e w' ⟨rfl, rfl⟩)
          | (go_at_call 16; (with_reducible refine (hS2.out _).mono ?_); rintro e w' ⟨rfl, m, rfl⟩)
          | (go_at_call 21; (with_reducible refine (hF2.out _).mono ?_); rintro e w' ⟨rfl, rfl⟩)
          | (go_at_call 14; (with_reducible refine (hGt.out _).mono ?_); rintro e w' ⟨rfl, rfl⟩))

      case' neg =>
        by_cases hi1 : i < bs.length
        case' pos =>
          obtain rfl : i = (c : Int) := by rcases HCL.out with ⟨h2, _⟩ | ⟨_, _, h1⟩ | ⟨h1, _⟩ <;> omega
          obtain rfl := HGb.out (by omega) hi1
          have hcb : c < bs.length := by omega
          have hcell : ∃ bb off, p1 = some ⟨bb, off, none⟩ ∧ wr.cell? ⟨bb, off + c, none⟩ = some (.bool ((bs[(c : Int).toNat]?).getD false)) := by
            rcases HC4.out with hnil | ⟨bb, off, rfl, hb, hc⟩
            · rw [hnil] at hcb; simp at hcb
            · exact ⟨bb, off, rfl, hc c hcb⟩
          obtain ⟨bb, off, rfl, hcell⟩ := hcell
          generalize (bs[(c : Int).toNat]?).getD false = x at *
          go_wp2_with fail
          refine (hR.out 0).mono ?_
          rintro e w4 ⟨rfl, m, rfl⟩
          go_wp2_with (first
            | (go_at_call 13; (with_reducible refine (hZ.out _).mono ?_); rintro e w' ⟨rfl, m, rfl⟩)
            | (go_at_call 15; (with_reducible refine (hS1.out _).mono ?_); rintro e w' ⟨rfl, m, rfl⟩)
            | (go_at_call 21; (with_reducible refine (hF1.out _).mono ?_); rintro e w' ⟨rfl, rfl⟩)
            | (go_at_call 16; (with_reducible refine (hS2.out _).mono ?_); rintro e w' ⟨rfl, m, rfl⟩)
            | (go_at_call 21; (with_reducible refine (hF2.out _).mono ?_); rintro e w' ⟨rfl, rfl⟩)
            | (go_at_call 14; (with_reducible refine (hGt.out _).mono ?_); rintro e w' ⟨rfl, rfl⟩))

        case' neg =>
          obtain rfl := HGo.out (.inr (by omega))
          have hc0 : bs.length ≤ c := by rcases HCL.out with ⟨h1, _⟩ | ⟨_, h1, _⟩ | ⟨_, h1⟩ <;> omega
          have hc1 : c ≤ bs.length := by have := HCl.out; have := HCC.out; omega
          go_wp2_with fail
          refine (hR.out 0).mono ?_
          rintro e w4 ⟨rfl, m, rfl⟩
          go_wp2_with (first
            | (go_at_call 13; (with_reducible refine (hZ.out _).mono ?_); rintro e w' ⟨rfl, m, rfl⟩)
            | (go_at_call 15; (with_reducible refine (hS1.out _).mono ?_); rintro e w' ⟨rfl, m, rfl⟩)
            | (go_at_call 21; (with_reducible refine (hF1.out _).mono ?_); rintro e w' ⟨rfl, rfl⟩)
            | (go_at_call 16; (with_reducible refine (hS2.out _).mono ?_); rintro e w' ⟨rfl, m, rfl⟩)
            | (go_at_call 21; (with_reducible refine (hF2.out _).mono ?_); rintro e w' ⟨rfl, rfl⟩)
            | (go_at_call 14; (with_reducible refine (hGt.out _).mono ?_); rintro e w' ⟨rfl, rfl⟩))

      all_goals
        refine (hO.out _).mono ?_
        rintro e w5 ⟨vo, rfl, ho, hB5⟩
        obtain ⟨q3, d3, rfl, h3⟩ := intsAt_of_owns ho
        have HSm := Lib.hid (same_any w5 q3 q1 d3 d1 (placesTo bs bs.length) (by omega) h3 (IntsAt.below (w := wr.drewN _) HI1.out hB5))
        have HV5 := Lib.hid ((HV4.out.drewN _).keep hB5)
        have HB5 := Lib.hid (below_step (below_drewN HB4.out _) hB5)
        clear ho hB5 h3
        go_wp2_with fail
        refine HSm.out.mono ?_
        rintro e w6 ⟨rfl, m5, rfl⟩
        have HO5 := Lib.hid (ones_any b g h bs 5 (by omega) (w5.drewN m5) (HV5.out.drewN m5))
        go_wp2_with fail
        refine HO5.out.mono ?_
        rintro e w7 ⟨v7, rfl, ho7, hB7⟩
        obtain ⟨q7, d7, rfl, _⟩ := ints_of_owns ho7
        have HB7 := Lib.hid (below_step (below_drewN HB5.out m5) hB7)
        rw [List.length_take]
        generalize (placesTo bs bs.length).length = P at *
        clear ho7 hB7
        have h5 : P < 5 ∨ 5 ≤ P := by omega
        rcases h5 with h5 | h5
        · rw [show min 5 P = P by omega]
          go_wp2_with (go_at_call 17; (with_reducible refine (awake_any _).mono ?_); rintro e w' ⟨rfl, hb⟩)
          go_ret
          exact ⟨rfl, below_step HB7.out hb⟩
        · rw [show min 5 P = 5 by omega]
          go_wp2_with (go_at_call 17; (with_reducible refine (awake_any _).mono ?_); rintro e w' ⟨rfl, hb⟩)
          go_ret
          exact ⟨rfl, below_step HB7.out hb⟩
end Go.Proofs.Ytekpjfbhhfcjnaa
