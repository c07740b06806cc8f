/- The walk of DiskSwaps: it answers true. -/
import Derived.Test.YtebkgkaihjoamaaMovesWalk
import Derived.Test.YtebkgkaihjoamaaCrashOne
namespace Go.Proofs.Ytebkgkaihjoamaa
open Go.RowKit Go.Proofs

/-- the names of DiskSwaps -/
abbrev tm : ByteArray := ⟨#[109]⟩
abbrev tt : ByteArray := ⟨#[116]⟩
/-- what a Crash of DiskSwaps leaves: the newer file under its name, or both as they lasted -/
theorem crash_two {base D : Nat} {w w' : World} {S : St} {fm ft : Nat} {A B : List UInt8} {files : List Int} {names : List Bool} {sync : Bool} (hm : S.con fm = (A, A.length)) (ht : S.con ft = (B, B.length)) (hfs : S.fs = [fm, ft])
    (hl : (sync = true ∧ S.ls = .map [(skey tm, litF ft)] ∧ S.ts = []) ∨ (sync = false ∧ S.ls = .map [(skey tm, litF fm), (skey tt, litF ft)] ∧ S.ts = [.move tt tm])) (h : Crashed base w D S files names w') :
    Below base w w' ∧ ∃ S', DX base w' D S' ∧ S'.Plain ∧ ((S'.nm = .map [(skey tm, litF ft)] ∧ (S'.con ft).1 = B) ∨ (sync = false ∧ S'.nm = .map [(skey tm, litF fm), (skey tt, litF ft)] ∧ (S'.con fm).1 = A)) := by
  obtain ⟨hb, m, Cx, es, hmm, _, _, hnow, hC, hX⟩ := h
  have h1 := hmm fm (by rw [hfs]; simp)
  have h2 := hmm ft (by rw [hfs]; simp)
  rw [hm] at h1
  rw [ht] at h2
  have e1 : m fm = A.length := Nat.le_antisymm h1.2 h1.1
  have e2 : m ft = B.length := Nat.le_antisymm h2.2 h2.1
  have cm : ((S.crashed m (.map es) Cx).con fm).1 = A := by rw [crashed_con, hm, e1]; exact List.take_length
  have ct : ((S.crashed m (.map es) Cx).con ft).1 = B := by rw [crashed_con, ht, e2]; exact List.take_length
  have hp : (S.crashed m (.map es) Cx).Plain := ⟨rfl, rfl, by simp [St.crashed, St.kept, St.refile, St.renewed]⟩
  have hlead : (Turn.move tt tm).lead (.map [(skey tm, litF fm), (skey tt, litF ft)]) = .map [(skey tm, litF ft)] := by
    rw [lead_move_eq (f := ft) rfl]; rfl
  refine ⟨hb, _, hX, hp, ?_⟩
  rcases hl with ⟨_, l1, l2⟩ | ⟨hs, l1, l2⟩
  · rw [l2] at hnow
    have h3 : S.ls = .map es := hnow
    rw [l1] at h3
    exact .inl ⟨h3.symm, ct⟩
  · rw [l2, l1] at hnow
    cases names with
    | nil =>
      have h3 : (Turn.move tt tm).lead (.map [(skey tm, litF fm), (skey tt, litF ft)]) = .map es := hnow
      rw [hlead] at h3
      exact .inl ⟨h3.symm, ct⟩
    | cons b bs =>
      cases b
      · have h3 : (DataW.map [(skey tm, litF fm), (skey tt, litF ft)] : DataW Unit) = .map es := hnow
        exact .inr ⟨hs, h3.symm, cm⟩
      · have h3 : (Turn.move tt tm).lead (.map [(skey tm, litF fm), (skey tt, litF ft)]) = .map es := hnow
        rw [hlead] at h3
        exact .inl ⟨h3.symm, ct⟩

set_option maxRecDepth 100000 in
set_option maxHeartbeats 16000000 in
theorem swaps_walk (a b : Int) (pf : Option Addr) (cf : Nat) (lf : List Int) (pn : Option Addr) (cn : Nat) (ln : List Bool) (sync : Bool) (w : World) (_h0 : (Lit.int .i64 a).wf = true) (_h1 : (Lit.int .i64 b).wf = true)
    (_hf : lf.length ≤ 9223372036854775807) (hlf : Came w pf lf.length cf (intsV lf)) (_hn : ln.length ≤ 9223372036854775807) (hln : Came w pn ln.length cn (boolsV ln)) :
    Calls Try.prog 11 #[.int .i64 a, .int .i64 b, .slice pf lf.length cf, .slice pn ln.length cn, .bool sync] w (IsTrue w) := by
  obtain ⟨A, hA, hA2⟩ := mask_nat a 8 (by omega)
  obtain ⟨B, hB, hB2⟩ := mask_nat b 8 (by omega)
  simp only [Nat.reducePow, Nat.reduceSub] at hA hA2 hB hB2
  have hA' : bits BinOp.and IntKind.i64 a 255 = (A : Int) := hA
  have hB' : bits BinOp.and IntKind.i64 b 255 = (B : Int) := hB
  clear hA hB
  have HF := Lib.hid hlf
  have HN := Lib.hid hln
  clear hlf hln
  have hnil := eql_disk_some
  have hcv := conv_run
  have HBa := Lib.hid (fun W => by have := bytes_any W 1 A (by omega) (by omega); rwa [show ((1 : Nat) : Int) = 1 from rfl] at this)
  have HBb := Lib.hid (fun W => by have := bytes_any W 2 B (by omega) (by omega); rwa [show ((2 : Nat) : Int) = 2 from rfl] at this)
  have hpl := bytesOf_length 1 A
  have hql := bytesOf_length 2 B
  generalize bytesOf 1 A = pp at *
  generalize bytesOf 2 B = qq at *
  go_enter Try.func11, Try.ntmps11
  go_wp2_with fail
  refine (new_dx w 1048576 (by omega)).mono ?_
  rintro e w1 ⟨rfl, h1, b1⟩
  have H1 := Lib.hid h1
  have HB1 := Lib.hid b1
  clear h1 b1
  go_wp2_with fail
  refine (create_st H1.out Good.new (by omega) tm (by decide) (by decide) rfl (by simp [Maps.size])).mono ?_
  rintro e w2 ⟨rfl, b2, fm, S2, _, h2, g2, c2, f2, l2, t2, _⟩
  rw [put_one] at g2
  have HB2 : Hid (Below w.heap.size w w2) := HB1.out.trans b2
  have H2 := Lib.hid h2
  clear b2 h2
  go_wp2_with fail
  refine (HBa.out w2).mono ?_
  rintro e w3 ⟨rfl, k3⟩
  have h3 := H2.out.keep k3
  have hX3 := h3.keep (conv_keeps w3 (textOf pp))
  have HB3 : Hid (Below w.heap.size w (convW w3 (textOf pp))) := HB2.out.trans ((k3.trans (conv_keeps w3 (textOf pp))).below HB2.out.size (by simp))
  have HA4 := Lib.hid (append_st hX3 g2 (by omega) tm (by decide) (by decide) fm rfl [] 0 c2 (by rw [used_one (f := fm) g2.nm, c2]; simp) _ pp (conv_text w3 pp) (conv_off w3 (textOf pp) h3.base_le.2.2) (by simp; omega))
  clear h3 hX3 k3
  go_wp2_with fail
  refine HA4.out.mono ?_
  rintro e w4 ⟨rfl, b4, S4, h4, g4, c4, f4, l4, t4, _⟩
  have HB4 : Hid (Below w.heap.size w w4) := HB3.out.trans b4
  have H4 := Lib.hid h4
  clear b4 h4 HA4
  go_wp2_with fail
  refine (sync_st H4.out g4 (by omega) tm (by decide) (by decide) fm rfl).mono ?_
  rintro e w5 ⟨rfl, b5, S5, h5, g5, c5, f5, l5, t5, _⟩
  rw [c4] at c5
  have HB5 : Hid (Below w.heap.size w w5) := HB4.out.trans b5
  have H5 := Lib.hid h5
  clear b5 h5
  go_wp2_with fail
  refine (create_st H5.out g5 (by omega) tt (by decide) (by decide) rfl (by simp [Maps.size])).mono ?_
  rintro e w6 ⟨rfl, b6, ft, S6, hft, h6, g6, c6, f6, l6, t6, o6⟩
  have hnm6 : (DataW.map [(skey tm, litF fm)]).put (skey tt) (litF ft) = .map [(skey tm, litF fm), (skey tt, litF ft)] := rfl
  rw [hnm6] at g6
  have hfs5 : S5.fs = [fm] := by rw [f5, f4, f2]; rfl
  have hne : fm ≠ ft := fun e1 => hft (by rw [hfs5, ← e1]; simp)
  have hcm6 : S6.con fm = (pp, pp.length) := by rw [o6 fm (by rw [hfs5]; simp), c5]; rfl
  have hfs6 : S6.fs = [fm, ft] := by rw [f6, hfs5]; rfl
  have HB6 : Hid (Below w.heap.size w w6) := HB5.out.trans b6
  have H6 := Lib.hid h6
  clear b6 h6 o6 c5
  go_wp2_with fail
  refine (HBb.out w6).mono ?_
  rintro e w7 ⟨rfl, k7⟩
  have h7 := H6.out.keep k7
  have hX7 := h7.keep (conv_keeps w7 (textOf qq))
  have HB7 : Hid (Below w.heap.size w (convW w7 (textOf qq))) := HB6.out.trans ((k7.trans (conv_keeps w7 (textOf qq))).below HB6.out.size (by simp))
  have HA8 := Lib.hid (append_st hX7 g6 (by omega) tt (by decide) (by decide) ft rfl [] 0 c6 (by rw [used_two g6.nm, hcm6, c6]; simp; omega) _ qq (conv_text w7 qq) (conv_off w7 (textOf qq) h7.base_le.2.2) (by simp; omega))
  clear h7 hX7 k7
  go_wp2_with fail
  refine HA8.out.mono ?_
  rintro e w8 ⟨rfl, b8, S8, h8, g8, c8, f8, l8, t8, o8⟩
  have hcm8 : S8.con fm = (pp, pp.length) := by rw [o8 fm hne, hcm6]
  have HB8 : Hid (Below w.heap.size w w8) := HB7.out.trans b8
  have H8 := Lib.hid h8
  clear b8 h8 HA8 o8
  go_wp2_with fail
  refine (sync_st H8.out g8 (by omega) tt (by decide) (by decide) ft rfl).mono ?_
  rintro e w9 ⟨rfl, b9, S9, h9, g9, c9, f9, l9, t9, o9⟩
  rw [c8] at c9
  have hcm9 : S9.con fm = (pp, pp.length) := by rw [o9 fm hne, hcm8]
  have hct9 : S9.con ft = (qq, qq.length) := by rw [c9]; rfl
  have HB9 : Hid (Below w.heap.size w w9) := HB8.out.trans b9
  have H9 := Lib.hid h9
  clear b9 h9 o9 c9
  go_wp2_with fail
  refine (syncdir_st H9.out g9 (by omega)).mono ?_
  rintro e w10 ⟨rfl, b10, S10, h10, g10, c10, f10, l10, t10⟩
  have HB10 : Hid (Below w.heap.size w w10) := HB9.out.trans b10
  have H10 := Lib.hid h10
  clear b10 h10
  have hdel : ((DataW.map [(skey tm, litF fm), (skey tt, litF ft)]).del (skey tt)).put (skey tm) (litF ft) = .map [(skey tm, litF ft)] := rfl
  go_wp2_with fail
  refine (rename_st H10.out g10 (by omega) tt tm (by decide) (by decide) (by decide) (by decide) (by decide) ft rfl (by rw [hdel]; simp [Maps.size])).mono ?_
  rw [hdel]
  rintro e w11 ⟨rfl, b11, S11, h11, g11, c11, f11, l11, t11⟩
  have HB11 : Hid (Below w.heap.size w w11) := HB10.out.trans b11
  have hcm11 : S11.con fm = (pp, pp.length) := by rw [c11, c10, hcm9]
  have hct11 : S11.con ft = (qq, qq.length) := by rw [c11, c10, hct9]
  have hfs11 : S11.fs = [fm, ft] := by rw [f11, f10, f9, f8, hfs6]
  rw [l10] at l11
  rw [t10, List.nil_append] at t11
  have H11 := Lib.hid h11
  clear b11 h11
  cases sync
  · skip
    have HCr := Lib.hid (crash_dx H11.out (.slice pf lf.length cf) (.slice pn ln.length cn) lf ln (came_arg HF.out HB11.out H11.out.files_at) (came_arg HN.out HB11.out H11.out.files_at) (came_cap HF.out))
    go_wp2_with fail
    refine HCr.out.mono ?_
    rintro e w13 ⟨⟨_, rfl⟩, hcr⟩
    obtain ⟨b13, S13, h13, p13, hor⟩ := crash_two (sync := false) hcm11 hct11 hfs11 (.inr ⟨rfl, l11, t11⟩) hcr
    have HB13 : Hid (Below w.heap.size w w13) := HB11.out.trans b13
    have H13 := Lib.hid h13
    clear b13 h13 hcr HCr
    rcases hor with ⟨nm13, con13⟩ | ⟨hs, nm13, con13⟩
    · have hrd := read_dx H13.out p13.dead tm (by decide) (by decide) ft (by rw [nm13]; rfl) 0 1000
      rw [con13, List.drop_zero, List.take_of_length_le (by show qq.length ≤ 1000; omega)] at hrd
      have HRd := Lib.hid hrd
      have heq : ((textOf qq).toList == (textOf qq).toList) = true := by simp
      clear hrd
      go_wp2_with fail
      refine HRd.out.mono ?_
      rintro e w14 ⟨v14, rfl, hr14, k14⟩
      have HR14 := Lib.hid hr14
      have HK14 := Lib.hid k14
      have hst14 := reads_string hr14
      have hst14d : (convert 29 9 v14).run Try.prog w14.drew = .ok (.string (textOf qq)) w14.drew := reads_string (((Keeps.refl [] w14).drew).reads hr14 (by simp))
      have HBa14 := Lib.hid (HBa.out w14.drew)
      clear hr14 k14
      go_wp2_with fail
      go_cut [14] from 84 to 89 (fun u wx => (∃ ob : Bool, u = .bool ob) ∧ Keeps [] w14 wx)
      case first =>
        go_region_with (go_at_call 27; (with_reducible refine HBa14.out.mono ?_); (rintro e w2' ⟨rfl, kk⟩); (have HKK : Hid (Keeps [] w14 w2') := ((Keeps.refl [] w14).drew).trans kk); (have hst2 := reads_string (HKK.out.reads HR14.out (by simp))); clear kk)
        all_goals (go_wp2_with fail; go_meet; exact ⟨⟨_, rfl⟩, HKK.out⟩)
      case rest =>
        obtain ⟨⟨ob, rfl⟩, kc14⟩ := hcut
        clear hst14 hst14d HBa14
        have HR15 := Lib.hid (kc14.reads HR14.out (by simp))
        have hst15 := reads_string HR15.out
        have hst15d : (convert 29 9 v14).run Try.prog wc.drew = .ok (.string (textOf qq)) wc.drew := reads_string (((Keeps.refl [] wc).drew).reads HR15.out (by simp))
        have HBb15 := Lib.hid (HBb.out wc.drew)
        have HKc := Lib.hid (HK14.out.trans kc14)
        clear kc14
        generalize wc = w15 at *
        go_wp2_with fail
        go_cut [15] from 90 to 95 (fun u wx => u = .bool true ∧ Keeps [] w15 wx)
        case first =>
          go_region_with (go_at_call 27; (with_reducible refine HBb15.out.mono ?_); (rintro e w2' ⟨rfl, kk⟩); (have HKK : Hid (Keeps [] w15 w2') := ((Keeps.refl [] w15).drew).trans kk); (have hst2 := reads_string (HKK.out.reads HR15.out (by simp))); clear kk)
          all_goals (go_wp2_with fail; go_meet; exact ⟨by first | rfl | rw [heq], HKK.out⟩)
        case rest =>
          obtain ⟨hu15, kc15⟩ := hcut; subst hu15
          clear hst15 hst15d HBb15
          have HKd := Lib.hid (HKc.out.trans kc15)
          clear kc15
          generalize wc = w16 at *
          have HB16 : Hid (Below w.heap.size w w16) := HB13.out.trans (HKd.out.below HB13.out.size (by simp))
          have HSz := Lib.hid (size_dx_miss (H13.out.keep HKd.out) p13.dead tt (by decide) (by decide) (by rw [nm13]; rfl))
          go_wp2_with fail
          refine HSz.out.mono ?_
          rintro e w17 ⟨rfl, rfl⟩
          cases ob
          all_goals
            go_wp2_with fail
            refine (awake_any w16).mono ?_
            rintro e w17 ⟨rfl, b17⟩
            have HB17 := Lib.hid b17
            clear b17
            go_wp2
            go_ret
            exact ⟨rfl, HB16.out.trans (HB17.out.mono HB16.out.size)⟩
    · have hrd := read_dx H13.out p13.dead tm (by decide) (by decide) fm (by rw [nm13]; rfl) 0 1000
      rw [con13, List.drop_zero, List.take_of_length_le (by show pp.length ≤ 1000; omega)] at hrd
      have HRd := Lib.hid hrd
      have heq : ((textOf pp).toList == (textOf pp).toList) = true := by simp
      clear hrd
      go_wp2_with fail
      refine HRd.out.mono ?_
      rintro e w14 ⟨v14, rfl, hr14, k14⟩
      have HR14 := Lib.hid hr14
      have HK14 := Lib.hid k14
      have hst14 := reads_string hr14
      have hst14d : (convert 29 9 v14).run Try.prog w14.drew = .ok (.string (textOf pp)) w14.drew := reads_string (((Keeps.refl [] w14).drew).reads hr14 (by simp))
      have HBa14 := Lib.hid (HBa.out w14.drew)
      clear hr14 k14
      go_wp2_with fail
      go_cut [14] from 84 to 89 (fun u wx => u = .bool true ∧ Keeps [] w14 wx)
      case first =>
        go_region_with (go_at_call 27; (with_reducible refine HBa14.out.mono ?_); (rintro e w2' ⟨rfl, kk⟩); (have HKK : Hid (Keeps [] w14 w2') := ((Keeps.refl [] w14).drew).trans kk); (have hst2 := reads_string (HKK.out.reads HR14.out (by simp))); clear kk)
        all_goals (go_wp2_with fail; go_meet; exact ⟨by first | rfl | rw [heq], HKK.out⟩)
      case rest =>
        obtain ⟨hu14, kc14⟩ := hcut; subst hu14
        clear hst14 hst14d HBa14
        have HR15 := Lib.hid (kc14.reads HR14.out (by simp))
        have hst15 := reads_string HR15.out
        have hst15d : (convert 29 9 v14).run Try.prog wc.drew = .ok (.string (textOf pp)) wc.drew := reads_string (((Keeps.refl [] wc).drew).reads HR15.out (by simp))
        have HBb15 := Lib.hid (HBb.out wc.drew)
        have HKc := Lib.hid (HK14.out.trans kc14)
        clear kc14
        generalize wc = w15 at *
        go_wp2_with fail
        go_cut [15] from 90 to 95 (fun u wx => (∃ nb : Bool, u = .bool nb) ∧ Keeps [] w15 wx)
        case first =>
          go_region_with (go_at_call 27; (with_reducible refine HBb15.out.mono ?_); (rintro e w2' ⟨rfl, kk⟩); (have HKK : Hid (Keeps [] w15 w2') := ((Keeps.refl [] w15).drew).trans kk); (have hst2 := reads_string (HKK.out.reads HR15.out (by simp))); clear kk)
          all_goals (go_wp2_with fail; go_meet; exact ⟨⟨_, rfl⟩, HKK.out⟩)
        case rest =>
          obtain ⟨⟨nb, rfl⟩, kc15⟩ := hcut
          clear hst15 hst15d HBb15
          have HKd := Lib.hid (HKc.out.trans kc15)
          clear kc15
          generalize wc = w16 at *
          have HB16 : Hid (Below w.heap.size w w16) := HB13.out.trans (HKd.out.below HB13.out.size (by simp))
          have HSz := Lib.hid (size_dx (H13.out.keep HKd.out) p13.dead tt (by decide) (by decide) ft (by rw [nm13]; rfl))
          go_wp2_with fail
          refine HSz.out.mono ?_
          rintro e w17 ⟨rfl, rfl⟩
          cases nb
          all_goals
            go_wp2_with fail
            refine (awake_any w16).mono ?_
            rintro e w17 ⟨rfl, b17⟩
            have HB17 := Lib.hid b17
            clear b17
            go_wp2
            go_ret
            exact ⟨rfl, HB16.out.trans (HB17.out.mono HB16.out.size)⟩
  · go_wp2_with fail
    refine (syncdir_st H11.out g11 (by omega)).mono ?_
    rintro e w12 ⟨rfl, b12, S12, h12, g12, c12, f12, l12, t12⟩
    have HB12 : Hid (Below w.heap.size w w12) := HB11.out.trans b12
    have hcm12 : S12.con fm = (pp, pp.length) := by rw [c12, hcm11]
    have hct12 : S12.con ft = (qq, qq.length) := by rw [c12, hct11]
    have hfs12 : S12.fs = [fm, ft] := by rw [f12, hfs11]
    have H12 := Lib.hid h12
    clear b12 h12
    have HCr := Lib.hid (crash_dx H12.out (.slice pf lf.length cf) (.slice pn ln.length cn) lf ln (came_arg HF.out HB12.out H12.out.files_at) (came_arg HN.out HB12.out H12.out.files_at) (came_cap HF.out))
    go_wp2_with fail
    refine HCr.out.mono ?_
    rintro e w13 ⟨⟨_, rfl⟩, hcr⟩
    obtain ⟨b13, S13, h13, p13, hor⟩ := crash_two (sync := true) hcm12 hct12 hfs12 (.inl ⟨rfl, l12, t12⟩) hcr
    have HB13 : Hid (Below w.heap.size w w13) := HB12.out.trans b13
    have H13 := Lib.hid h13
    clear b13 h13 hcr HCr
    rcases hor with ⟨nm13, con13⟩ | ⟨hs, nm13, con13⟩
    · have hrd := read_dx H13.out p13.dead tm (by decide) (by decide) ft (by rw [nm13]; rfl) 0 1000
      rw [con13, List.drop_zero, List.take_of_length_le (by show qq.length ≤ 1000; omega)] at hrd
      have HRd := Lib.hid hrd
      have heq : ((textOf qq).toList == (textOf qq).toList) = true := by simp
      clear hrd
      go_wp2_with fail
      refine HRd.out.mono ?_
      rintro e w14 ⟨v14, rfl, hr14, k14⟩
      have HR14 := Lib.hid hr14
      have HK14 := Lib.hid k14
      have hst14 := reads_string hr14
      have hst14d : (convert 29 9 v14).run Try.prog w14.drew = .ok (.string (textOf qq)) w14.drew := reads_string (((Keeps.refl [] w14).drew).reads hr14 (by simp))
      have HBa14 := Lib.hid (HBa.out w14.drew)
      clear hr14 k14
      go_wp2_with fail
      go_cut [14] from 84 to 89 (fun u wx => (∃ ob : Bool, u = .bool ob) ∧ Keeps [] w14 wx)
      case first =>
        go_region_with (go_at_call 27; (with_reducible refine HBa14.out.mono ?_); (rintro e w2' ⟨rfl, kk⟩); (have HKK : Hid (Keeps [] w14 w2') := ((Keeps.refl [] w14).drew).trans kk); (have hst2 := reads_string (HKK.out.reads HR14.out (by simp))); clear kk)
        all_goals (go_wp2_with fail; go_meet; exact ⟨⟨_, rfl⟩, HKK.out⟩)
      case rest =>
        obtain ⟨⟨ob, rfl⟩, kc14⟩ := hcut
        clear hst14 hst14d HBa14
        have HR15 := Lib.hid (kc14.reads HR14.out (by simp))
        have hst15 := reads_string HR15.out
        have hst15d : (convert 29 9 v14).run Try.prog wc.drew = .ok (.string (textOf qq)) wc.drew := reads_string (((Keeps.refl [] wc).drew).reads HR15.out (by simp))
        have HBb15 := Lib.hid (HBb.out wc.drew)
        have HKc := Lib.hid (HK14.out.trans kc14)
        clear kc14
        generalize wc = w15 at *
        go_wp2_with fail
        go_cut [15] from 90 to 95 (fun u wx => u = .bool true ∧ Keeps [] w15 wx)
        case first =>
          go_region_with (go_at_call 27; (with_reducible refine HBb15.out.mono ?_); (rintro e w2' ⟨rfl, kk⟩); (have HKK : Hid (Keeps [] w15 w2') := ((Keeps.refl [] w15).drew).trans kk); (have hst2 := reads_string (HKK.out.reads HR15.out (by simp))); clear kk)
          all_goals (go_wp2_with fail; go_meet; exact ⟨by first | rfl | rw [heq], HKK.out⟩)
        case rest =>
          obtain ⟨hu15, kc15⟩ := hcut; subst hu15
          clear hst15 hst15d HBb15
          have HKd := Lib.hid (HKc.out.trans kc15)
          clear kc15
          generalize wc = w16 at *
          have HB16 : Hid (Below w.heap.size w w16) := HB13.out.trans (HKd.out.below HB13.out.size (by simp))
          have HSz := Lib.hid (size_dx_miss (H13.out.keep HKd.out) p13.dead tt (by decide) (by decide) (by rw [nm13]; rfl))
          go_wp2_with fail
          refine HSz.out.mono ?_
          rintro e w17 ⟨rfl, rfl⟩
          cases ob
          all_goals
            go_wp2_with fail
            refine (awake_any w16).mono ?_
            rintro e w17 ⟨rfl, b17⟩
            have HB17 := Lib.hid b17
            clear b17
            go_wp2
            go_ret
            exact ⟨rfl, HB16.out.trans (HB17.out.mono HB16.out.size)⟩
    · cases hs
end Go.Proofs.Ytebkgkaihjoamaa
