/- The walk of DiskLasts: it answers true. -/
import Derived.Test.YtebkgkaihjoamaaCrashOne
namespace Go.Proofs.Ytebkgkaihjoamaa
open Go.RowKit Go.Proofs

/-- the disk's state in DiskLasts: one file of the bytes b, of which last are lasting -/
structure LastS (S : St) (f : Nat) (b : List UInt8) (last : Nat) (c : Nat) : Prop where
  o : One S ⟨#[102]⟩ f b last
  c : S.c ≤ c
  p : S.Plain
  q : S.q = 1048576
set_option maxRecDepth 100000 in
set_option maxHeartbeats 40000000 in
theorem lasts_walk (pa : Option Addr) (ca : Nat) (la : List Int) (pb : Option Addr) (cb : Nat) (lb : List Int) (pf : Option Addr) (cf : Nat) (lf : List Int) (pn : Option Addr) (cn : Nat) (ln : List Bool) (w : World)
    (ha : la.length ≤ 9223372036854775807) (hla : Came w pa la.length ca (intsV la)) (hb : lb.length ≤ 9223372036854775807) (hlb : Came w pb lb.length cb (intsV lb)) (_hf : lf.length ≤ 9223372036854775807) (hlf : Came w pf lf.length cf (intsV lf)) (_hn : ln.length ≤ 9223372036854775807) (hln : Came w pn ln.length cn (boolsV ln)) :
    Calls Try.prog 7 #[.slice pa la.length ca, .slice pb lb.length cb, .slice pf lf.length cf, .slice pn ln.length cn] w (IsTrue w) := by
  have hnil := eql_disk_some
  have hcv := conv_run
  have HA := Lib.hid hla
  have HB := Lib.hid hlb
  have HF := Lib.hid hlf
  have HN := Lib.hid hln
  clear hla hlb hlf hln
  rcases Nat.lt_or_ge 20 la.length with hsA | hsA <;> rcases Nat.lt_or_ge 20 lb.length with hsB | hsB
  all_goals
    go_enter Try.func7, Try.ntmps7
    go_wp2_with fail
    refine (new_dx w 1048576 (by omega)).mono ?_
    rintro e w1 ⟨rfl, h1, b1⟩
    have H1 := Lib.hid h1
    have HB1 := Lib.hid b1
    clear h1 b1
    go_wp2_with fail
    refine (create_dx H1.out (St.new_plain _) (by simp [St.new]) ⟨#[102]⟩ (by decide) (by decide) rfl (by simp [St.new, Maps.size])).mono ?_
    rintro e w2 ⟨rfl, b2, f, hf, h2⟩
    have H2 := Lib.hid h2
    have HB2 : Hid (Below w.heap.size w w2) := HB1.out.trans b2
    clear h2 b2
    go_wp2_with fail
    go_loopw [10, 12] (fun vs vi wr => ∃ (k : Nat) (ss : List UInt8) (S : St), vs = .string (textOf ss) ∧ vi = .int .i64 (k : Int) ∧ k ≤ la.length ∧ k ≤ 20 ∧ ss.length ≤ 63 * k ∧ DX w.heap.size wr (w.heap.size + 1 + 1) S ∧ LastS S f ss 0 (1 + k) ∧ Below w.heap.size w wr) (fun _ vi _ => 20 - (intOf vi).toNat)
    case atStart => exact ⟨0, [], _, rfl, rfl, Nat.zero_le _, Nat.zero_le _, by simp, H2.out, ⟨One.new _ _ _, by simp [St.made, St.new], Plain.new _ _ _, rfl⟩, HB2.out⟩
    case round =>
      obtain ⟨k, ss, S, rfl, rfl, hkl, hk30, hss, hX, hF, hB⟩ := hrel
      have HX := Lib.hid hX
      have FS := Lib.hid hF
      have HBw := Lib.hid hB
      clear hX hF hB
      have hsc := FS.out.c
      by_cases hlt : k < la.length ∧ k < 20
      · obtain ⟨hlt1, hlt2⟩ := hlt
        obtain ⟨g, o, rfl, hg, hcell⟩ := came_int HA.out HBw.out k hlt1
        obtain ⟨j, hj, hj2⟩ := mask_nat la[k] 6 (by omega)
        simp only [Nat.reducePow, Nat.reduceSub] at hj hj2
        have hj' : bits BinOp.and IntKind.i64 la[k] 63 = (j : Int) := hj
        clear hj
        have HBy := Lib.hid (bytes_any wr k j (by omega) (by omega))
        go_wp2_with fail
        refine HBy.out.mono ?_
        rintro e w5 ⟨rfl, k5⟩
        have hpl := bytesOf_length k j
        generalize bytesOf k j = p0 at *
        have hX5 := HX.out.keep k5
        have hXc := hX5.keep (conv_keeps w5 (textOf p0))
        have hDl5 := hX5.base_le.2.2
        have hadd := fun W => add_text W ss p0 (by omega)
        have hadd2 := fun W => add_text2 W ss p0 (by omega)
        have HB5 : Hid (Below w.heap.size w (convW w5 (textOf p0))) := HBw.out.trans ((k5.trans (conv_keeps w5 (textOf p0))).below HBw.out.size (by simp))
        have HAp := Lib.hid (append_oneH (S1 := S.count) hXc FS.out.o.count FS.out.p.dead FS.out.q (by decide) (by decide) _ p0 (conv_text w5 p0) (conv_off w5 (textOf p0) hDl5) (by omega) _ (handed_plain hXc FS.out.p (by omega) _))
        clear HBy hX5 k5 hXc
        go_wp2_with fail
        refine HAp.out.mono ?_
        rintro e w6 ⟨v, rfl, rfl, b6, h6⟩
        have HB6 := Lib.hid b6
        have H6 := Lib.hid h6
        clear b6 h6 HAp
        go_wp2_with fail
        go_roundw
        case rel => exact ⟨k + 1, ss ++ p0, _, by first | rfl | rw [text_append], by go_num, by omega, by omega, by simp; omega, H6.out, ⟨FS.out.o.count.put' _ _, by show S.c + 1 ≤ _; omega, ⟨FS.out.p.dead, FS.out.p.fl, FS.out.p.st⟩, FS.out.q⟩, HB5.out.trans HB6.out⟩
        case measure => simp [intOf]; omega
      · have HSy := Lib.hid (sync_dx (S1 := S.count) HX.out ⟨#[102]⟩ (by decide) (by decide) f FS.out.o.file (by show f ∈ S.fs; rw [FS.out.o.fs]; simp) _ (handed_plain HX.out FS.out.p (by omega) _) FS.out.p.dead)
        have hout : la.length ≤ k ∨ (20 ≤ k ∧ k < la.length) := by omega
        generalize wr = W0 at *
        rcases hout with hout | hout <;> first | (exfalso; omega) | skip
        go_wp2_with fail
        refine HSy.out.mono ?_
        rintro e w3 ⟨v, rfl, b3, rfl, h3⟩
        have hcon : (S.count.con f) = (ss, 0) := FS.out.o.con
        rw [hcon] at h3
        have hP3 : (S.count.file f ss ss.length).Plain := ⟨FS.out.p.dead, FS.out.p.fl, FS.out.p.st⟩
        have HSd := Lib.hid (syncdir_dx (S1 := (S.count.file f ss ss.length).count) h3 _ (handed_plain h3 hP3 (by show S.c + 1 < 4000; omega) _))
        have HB3 := Lib.hid b3
        clear h3 b3 HSy hcon
        go_wp2_with fail
        refine HSd.out.mono ?_
        rintro e w4 ⟨v, rfl, b4, rfl, h4⟩
        have O4 : Hid (LastS (S.count.file f ss ss.length).count.lasting f ss ss.length 23) := ⟨⟨FS.out.o.nm, FS.out.o.fs, by show (if f = f then _ else _) = _; rw [if_pos rfl]⟩, by show S.c + 1 + 1 ≤ _; omega, ⟨FS.out.p.dead, FS.out.p.fl, FS.out.p.st⟩, FS.out.q⟩
        have H4 := Lib.hid h4
        have HB4 : Hid (Below w.heap.size w w4) := HBw.out.trans (HB3.out.trans b4)
        clear h4 b4 HSd hP3 HX FS HBw
        generalize W0 = W0' at *
        go_wp2_with fail
        go_loopw [11, 14] (fun vs vi wr => ∃ (k : Nat) (tt : List UInt8) (S : St), vs = .string (textOf tt) ∧ vi = .int .i64 (k : Int) ∧ k ≤ lb.length ∧ k ≤ 20 ∧ tt.length ≤ 63 * k ∧ DX w.heap.size wr (w.heap.size + 1 + 1) S ∧ LastS S f (ss ++ tt) ss.length (23 + k) ∧ Firm S ⟨#[102]⟩ f ∧ Below w.heap.size w wr) (fun _ vi _ => 20 - (intOf vi).toNat)
        case atStart => exact ⟨0, [], _, rfl, rfl, Nat.zero_le _, Nat.zero_le _, by simp, H4.out, ⟨by rw [List.append_nil]; exact O4.out.o, by have := O4.out.c; omega, O4.out.p, O4.out.q⟩, ⟨O4.out.o.nm, rfl⟩, HB4.out⟩
        case round =>
          obtain ⟨k, tt, S, rfl, rfl, hkl, hk30, htt, hX, hF, hFm, hB⟩ := hrel
          have FM := Lib.hid hFm
          clear hFm
          have HX := Lib.hid hX
          have FS := Lib.hid hF
          have HBw := Lib.hid hB
          clear hX hF hB
          have hsc := FS.out.c
          by_cases hlt : k < lb.length ∧ k < 20
          · obtain ⟨hlt1, hlt2⟩ := hlt
            obtain ⟨g, o, rfl, hg, hcell⟩ := came_int HB.out HBw.out k hlt1
            obtain ⟨j, hj, hj2⟩ := mask_nat lb[k] 6 (by omega)
            simp only [Nat.reducePow, Nat.reduceSub] at hj hj2
            have hj' : bits BinOp.and IntKind.i64 lb[k] 63 = (j : Int) := hj
            clear hj
            have HBy := Lib.hid (bytes_any wr (100 + k) j (by omega) (by omega))
            rw [show ((100 + k : Nat) : Int) = 100 + (k : Int) by omega] at HBy
            go_wp2_with fail
            refine HBy.out.mono ?_
            rintro e w5 ⟨rfl, k5⟩
            have hpl := bytesOf_length (100 + k) j
            generalize bytesOf (100 + k) j = p0 at *
            have hX5 := HX.out.keep k5
            have hXc := hX5.keep (conv_keeps w5 (textOf p0))
            have hDl5 := hX5.base_le.2.2
            have hadd := fun W => add_text W tt p0 (by omega)
            have hadd2 := fun W => add_text2 W tt p0 (by omega)
            have HB5 : Hid (Below w.heap.size w (convW w5 (textOf p0))) := HBw.out.trans ((k5.trans (conv_keeps w5 (textOf p0))).below HBw.out.size (by simp))
            have HAp := Lib.hid (append_oneH (S1 := S.count) hXc FS.out.o.count FS.out.p.dead FS.out.q (by decide) (by decide) _ p0 (conv_text w5 p0) (conv_off w5 (textOf p0) hDl5) (by rw [List.length_append]; omega) _ (handed_plain hXc FS.out.p (by omega) _))
            clear HBy hX5 k5 hXc
            go_wp2_with fail
            refine HAp.out.mono ?_
            rintro e w6 ⟨v, rfl, rfl, b6, h6⟩
            have HB6 := Lib.hid b6
            have H6 := Lib.hid h6
            clear b6 h6 HAp
            go_wp2_with fail
            go_roundw
            case rel => exact ⟨k + 1, tt ++ p0, _, by first | rfl | rw [text_append], by go_num, by omega, by omega, by simp; omega, H6.out, ⟨by rw [← List.append_assoc]; exact FS.out.o.count.put' _ _, by show S.c + 1 ≤ _; omega, ⟨FS.out.p.dead, FS.out.p.fl, FS.out.p.st⟩, FS.out.q⟩, ⟨FM.out.ls, FM.out.ts⟩, HB5.out.trans HB6.out⟩
            case measure => simp [intOf]; omega
          · have hout : lb.length ≤ k ∨ (20 ≤ k ∧ k < lb.length) := by omega
            generalize wr = W1 at *
            rcases hout with hout | hout <;> first | (exfalso; omega) | skip
            go_wp2_with fail
            go_loopw [11, 16] (fun vs vi wr => ∃ (i : Nat) (tt : List UInt8) (last : Nat) (S : St), vs = .string (textOf tt) ∧ vi = .int .i64 (i : Int) ∧ i ≤ 3 ∧ tt.length ≤ 1260 ∧ ss.length ≤ last ∧ DX w.heap.size wr (w.heap.size + 1 + 1) S ∧ LastS S f (ss ++ tt) last 43 ∧ Firm S ⟨#[102]⟩ f ∧ Below w.heap.size w wr) (fun _ vi _ => 3 - (intOf vi).toNat)
            case atStart => exact ⟨0, tt, ss.length, S, rfl, rfl, by omega, by omega, Nat.le_refl _, HX.out, ⟨FS.out.o, by have := FS.out.c; omega, FS.out.p, FS.out.q⟩, FM.out, HBw.out⟩
            case round =>
              obtain ⟨i, t3, last, S3, rfl, rfl, hi3, ht3, hla3, hX, hF, hFm, hB⟩ := hrel
              have HX3 := Lib.hid hX
              have FS3 := Lib.hid hF
              have HB3 := Lib.hid hB
              have FM3 := Lib.hid hFm
              clear hX hF hB hFm
              by_cases hlt : i < 3
              · have HCr := Lib.hid (crash_dx HX3.out (.slice pf lf.length cf) (.slice pn ln.length cn) lf ln (came_arg HF.out HB3.out HX3.out.files_at) (came_arg HN.out HB3.out HX3.out.files_at) (came_cap HF.out))
                go_wp2_with fail
                refine HCr.out.mono ?_
                rintro e w5 ⟨⟨_, rfl⟩, hcr⟩
                obtain ⟨b5, k5, S5, hk1, hk2, _, h5, o5, fm5, p5, hc5, hq5⟩ := crash_one FS3.out.o FM3.out hcr
                have hk5 : ss.length ≤ k5 := by omega
                have hlen : (ss ++ t3).length = ss.length + t3.length := by simp
                have e5 : (ss ++ t3).take k5 = ss ++ t3.take (k5 - ss.length) := by
                  rw [List.take_append, List.take_of_length_le hk5]
                have hl5 : (ss ++ t3.take (k5 - ss.length)).length = k5 := by rw [← e5, List.length_take]; omega
                have hta : (t3.take (k5 - ss.length)).length = k5 - ss.length := by rw [List.length_take]; omega
                have hsl1 := fun W => slice_head W (ss ++ t3) k5 (k5 : Int) rfl hk2
                have hsl2 := fun W => slice_head W t3 (k5 - ss.length) ((k5 : Int) - (ss.length : Int)) (by omega) (by omega)
                rw [e5] at o5 hsl1
                have hadd := fun W => add_text W ss t3 (by omega)
                have hadd2 := fun W => add_text2 W ss t3 (by omega)
                have hrd := read_dx h5 p5.dead ⟨#[102]⟩ (by decide) (by decide) f o5.file 0 1048576
                rw [o5.con, List.drop_zero, List.take_of_length_le (by show (ss ++ t3.take (k5 - ss.length)).length ≤ 1048576; omega)] at hrd
                have HRd := Lib.hid hrd
                have HUs := Lib.hid (fun (W : World) (kk : Keeps [] w5 W) => used_dx (h5.keep kk) p5.dead)
                rw [o5.used, hl5] at HUs
                have heq : ((textOf (ss ++ t3.take (k5 - ss.length))).toList == (textOf (ss ++ t3.take (k5 - ss.length))).toList) = true := by simp
                have H5 := Lib.hid h5
                have O5 := Lib.hid o5
                have P5 := Lib.hid p5
                have F5 := Lib.hid fm5
                have HB5 : Hid (Below w.heap.size w w5) := HB3.out.trans b5
                have HC5 : Hid (S5.c ≤ 43 ∧ S5.q = 1048576) := ⟨by rw [hc5]; exact FS3.out.c, by rw [hq5]; exact FS3.out.q⟩
                have HTA := Lib.hid hta
                have hk2' : k5 ≤ ss.length + t3.length := by have : k5 ≤ (ss ++ t3).length := hk2; omega
                clear hrd hcr HCr h5 o5 p5 fm5 b5 hta e5 hlen hc5 hq5 hk2
                generalize t3.take (k5 - ss.length) = t5 at *
                go_wp2_with fail
                refine HRd.out.mono ?_
                rintro e w6 ⟨v6, rfl, hr6, k6⟩
                have hst : ∀ a, (convert 29 9 v6).run Try.prog (w6.drewN a) = .ok (.string (textOf (ss ++ t5))) (w6.drewN a) := fun a => reads_string (((Keeps.refl [] w6).drewN a).reads hr6 (by simp))
                obtain ⟨px, cx, hv6⟩ := hr6.shape
                rw [show (cellsOf (ss ++ t5)).length = k5 from by rw [← hl5]; simp [cellsOf]] at hv6
                subst hv6
                have HK6 := Lib.hid k6
                clear hr6 k6 HRd
                have hdec : decide (IntKind.i64.wrap ((ss.length : Int) + (t3.length : Int)) < (k5 : Int)) = false := by rw [IntWalk.i64_in _ (by omega)]; simp; omega
                have hdec2 : decide (k5 < ss.length) = false := by simp; omega
                go_wp2_with fail
                go_quiet (fail)
                have hue : ((k5 : Int) == (ss.length : Int) + (t5.length : Int)) = true := by have := HTA.out; exact beq_iff_eq.2 (by omega)
                have hta2 : t5.length ≤ 1260 := by have := HTA.out; omega
                have HB6 : Hid (Below w.heap.size w w6) := HB5.out.trans (HK6.out.below HB5.out.size (by simp))
                rcases Nat.eq_zero_or_pos i with hi0 | hi0
                · subst hi0
                  go_wp2_with fail
                  go_roundw
                  case rel => exact ⟨1, t5, k5, S5, rfl, rfl, by omega, hta2, hk5, H5.out.keep (HK6.out.drewN _), ⟨O5.out, HC5.out.1, P5.out, HC5.out.2⟩, F5.out, HB6.out.trans (((Keeps.refl [] w6).drewN _).below HB6.out.size (by simp))⟩
                  case measure => simp [intOf]
                · go_wp2_with fail
                  refine (HUs.out _ (HK6.out.drewN _)).mono ?_
                  rintro e w7 ⟨rfl, k7⟩
                  have HK7 := Lib.hid k7
                  clear k7
                  go_wp2_with fail
                  go_roundw
                  case rel => exact ⟨i + 1, t5, k5, S5, rfl, by go_num, by omega, hta2, hk5, (H5.out.keep (HK6.out.drewN _)).keep HK7.out, ⟨O5.out, HC5.out.1, P5.out, HC5.out.2⟩, F5.out, HB6.out.trans ((((Keeps.refl [] w6).drewN _).trans HK7.out).below HB6.out.size (by simp))⟩
                  case measure => simp [intOf]; omega
              · have hi : i = 3 := by omega
                subst hi
                go_wp2_with fail
                refine (awake_any wr).mono ?_
                rintro e w6 ⟨rfl, b6⟩
                have HB6 := Lib.hid b6
                clear b6
                go_wp2
                go_ret
                exact ⟨rfl, HB3.out.trans (HB6.out.mono HB3.out.size)⟩
end Go.Proofs.Ytebkgkaihjoamaa
