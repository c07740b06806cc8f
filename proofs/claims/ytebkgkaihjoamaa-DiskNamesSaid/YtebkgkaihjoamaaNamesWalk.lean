/- The walk of DiskNames: it answers true. -/
import Derived.Test.YtebkgkaihjoamaaNamesQ
namespace Go.Proofs.Ytebkgkaihjoamaa
open Go.RowKit Go.Proofs

set_option maxRecDepth 100000 in
set_option maxHeartbeats 8000000 in
theorem names_walk (n0 : Int) (p : Option Addr) (cap : Nat) (kp : List Bool) (sy : Bool) (w : World) (_h0 : (Lit.int .i64 n0).wf = true) (_hm : kp.length ≤ 9223372036854775807) (hl : Came w p kp.length cap (boolsV kp)) : Calls Try.prog 3 #[.int .i64 n0, .slice p kp.length cap, .bool sy] w (IsTrue w) := by
  obtain ⟨n, hn, hn2⟩ := mask_nat n0 4 (by omega)
  simp only [Nat.reducePow, Nat.reduceSub] at hn hn2
  have hn' : bits BinOp.and IntKind.i64 n0 15 = (n : Int) := hn
  clear hn
  obtain ⟨i0, hi, hz0, hz1, hz2⟩ := info_parts info9
  have hnil := eql_disk_some
  have hlm := hl.2.1
  have hcapl := hl.2.2.1
  have HL := Lib.hid hl
  clear hl
  go_enter Try.func3, Try.ntmps3
  go_wp2_with fail
  refine (new_dx w 1000 (by omega)).mono ?_
  rintro e w1 ⟨rfl, h1, b1⟩
  have H1 := Lib.hid h1
  have HB1 := Lib.hid b1
  clear h1 b1
  go_wp2_with fail
  refine (create_dx H1.out (St.new_plain _) (by simp [St.new]) ⟨#[111, 108, 100]⟩ (by decide) (by decide) rfl (by simp [St.new, Maps.size])).mono ?_
  rintro e w2 ⟨rfl, b2, f, hf, h2⟩
  have hP2 : (St.made (St.new 1000) ⟨#[111, 108, 100]⟩ f).Plain := ⟨rfl, rfl, by simp [St.made, St.new]⟩
  have HSd := Lib.hid (syncdir_dx (S1 := ((St.new 1000).made ⟨#[111, 108, 100]⟩ f).count) h2 _ (handed_plain h2 hP2 (by simp [St.made, St.new]) _))
  have HB2 := Lib.hid b2
  clear h2 b2
  go_wp2_with fail
  refine HSd.out.mono ?_
  rintro e w3 ⟨v, rfl, b3, rfl, h3⟩
  have HB3 : Hid (Below w.heap.size w w3) := HB1.out.trans (HB2.out.trans b3)
  have HS3 : Hid (NamesS ((St.new 1000).made ⟨#[111, 108, 100]⟩ f).count.lasting kp 0) := by
    have hnm : NmIs (.map [(skey ⟨#[111, 108, 100]⟩, litF f)]) [oldN] := ⟨_, rfl, List.Perm.refl _⟩
    exact ⟨hnm, hnm, rfl, rfl, ⟨rfl, rfl, by simp [St.made, St.new, St.count, St.lasting]⟩⟩
  have h3' := h3.keep ((Keeps.refl [] w3).alloc (.cells #[] 9))
  have HB4 : Hid (Below w.heap.size w (w3.alloc (.cells #[] 9))) := HB3.out.trans (((Keeps.refl [] w3).alloc _).below HB3.out.size (by simp))
  have HO4 := Lib.hid (own_none w3 w.heap.size HB3.out.size)
  generalize ((St.new 1000).made ⟨#[111, 108, 100]⟩ f).count.lasting = S3 at *
  have H4 := Lib.hid h3'
  clear b3 h3 h3' HSd HB1 HB2 HB3 H1
  go_wp2_with fail
  generalize w3.alloc (.cells #[] 9) = w4 at *
  generalize w3.heap.size = U at *
  go_loopw [8, 9] (fun vw vi wr => ∃ (k : Nat) (S : St), vi = .int .i64 (k : Int) ∧ k ≤ n + 1 ∧ DX w.heap.size wr (w.heap.size + 1 + 1) S ∧ NamesS S kp k ∧ wr.ownsRow w.heap.size 9 1 vw (wantN sy kp k).length ((wantN sy kp k).map encStr) ∧ Below w.heap.size w wr) (fun _ vi _ => 70 - (intOf vi).toNat)
  case atStart => exact ⟨0, _, rfl, Nat.zero_le _, H4.out, HS3.out, HO4.out, HB4.out⟩
  case round =>
    clear HS3 H4 HO4 HB4
    obtain ⟨k, S, rfl, hkn, hX, hF, hO, hB⟩ := hrel
    have HX := Lib.hid hX
    have HF := Lib.hid hF
    have HO := Lib.hid hO
    have HB := Lib.hid hB
    clear hX hF hO hB
    by_cases hlt : k < n + 1
    · have hk16 : k < 16 := by omega
      obtain ⟨t2, t3, hcv, hadd, hadd2, ht3⟩ := nName_comes wr k hk16
      have HT := Lib.hid ht3
      have kA : Keeps [] wr (wr.alloc (.cells #[.int .u8 (97 + (k : Int))] 5)) := (Keeps.refl [] wr).alloc _
      have HBA : Hid (Below w.heap.size w (wr.alloc (.cells #[.int .u8 (97 + (k : Int))] 5))) := HB.out.trans (kA.below HB.out.size (by simp))
      have hsz := HF.out.size
      have hsc := HF.out.c
      have hfz : t3.size ≤ maxLen := by rw [ht3]; show 2 ≤ maxLen; decide
      have hok : nameOk t3 = true := by rw [ht3]; exact nName_ok k hk16
      have hms : fileOf S.nm t3.data.toList = noFile := by rw [ht3]; exact HF.out.miss hk16
      have HC := Lib.hid (create_dxK (HX.out.keep kA) HF.out.p (by omega) t3 hfz hok hms (by omega))
      have HOA := Lib.hid (strOwn_keepT HO.out (kA.keepT (by simp)))
      clear kA hfz hok hms ht3
      go_wp2_with fail
      refine HC.out.mono ?_
      rintro e w2 ⟨rfl, ⟨b2, t2k⟩, f, hf, h2⟩
      have HB2 : Hid (Below w.heap.size w w2) := HBA.out.trans b2
      have H2 := Lib.hid h2
      have HF2 : Hid (NamesS (S.made t3 f) kp (k + 1)) := by rw [HT.out]; exact HF.out.made hk16 f
      have HO2 := Lib.hid (strOwn_keepT HOA.out t2k)
      clear b2 h2 HC t2k
      have k3 : Keeps [] w2 (w2.alloc (.cells #[.string t3] 9)) := (Keeps.refl [] w2).alloc _
      have H3 := Lib.hid (H2.out.keep k3)
      have HO3 := Lib.hid (strOwn_keepT HO2.out (k3.keepT (by simp)))
      have HB3 : Hid (Below w.heap.size w (w2.alloc (.cells #[.string t3] 9))) := HB2.out.trans (k3.below HB2.out.size (by simp))
      have hwl := wantN_length sy kp k
      have hsz2 := HB2.out.size
      clear k3
      by_cases hsy : sy = true
      · subst hsy
        · have HKB : Hid (keepB true kp k = true) := rfl
          go_wp2_with (first | (at_builtin; refine wpList_append_own_at _ rfl _ _ 28 rfl w.heap.size 9 i0 (.string ByteArray.empty) 1 16 Try.underlying28 hi hz0 hz1 hz2 rfl (by decide) _ _ _ rfl HO3.out ⟨w2.heap.size, 0, none⟩ 1 1 [.string t3] rfl rfl (cell_one_new _ _ _) (fun x hx => by simp at hx; subst hx; rfl) (by unfold maxLen; omega) (by omega) (by simp; omega) ?_; intro v' w5 hown' hgrow hnil' hat'))
          have HO5 := Lib.hid (own_next hown' HT.out HKB.out)
          have H5 := Lib.hid (H3.out.grew HO3.out hgrow)
          have HB5 := Lib.hid (grew_below HB3.out (by simp; omega) HO3.out hgrow)
          clear hown' hgrow hnil' hat'
          go_wp2_with fail
          go_roundw
          case rel => exact ⟨k + 1, _, by go_num, by omega, H5.out, HF2.out, HO5.out, HB5.out⟩
          case measure => simp [intOf]; omega
      · obtain rfl : sy = false := by simpa using hsy
        clear hsy
        by_cases hlen : k < kp.length
        · obtain ⟨g, o, rfl, hg, hcell⟩ := came_bool HL.out HB2.out k hlen
          have hcelld : ∀ a, (w2.drewN a).cell? ⟨g, o + k, none⟩ = some (.bool kp[k]) := fun a => hcell
          have HKB : Hid (keepB false kp k = kp[k]) := by
            show (false || (kp[k]?).getD true) = _
            rw [List.getElem?_eq_getElem hlen]
            rfl
          cases hb : kp[k] with
          | true =>
            rw [hb] at hcell hcelld HKB
            clear hb
            go_wp2_with (first | (at_builtin; refine wpList_append_own_at _ rfl _ _ 28 rfl w.heap.size 9 i0 (.string ByteArray.empty) 1 16 Try.underlying28 hi hz0 hz1 hz2 rfl (by decide) _ _ _ rfl HO3.out ⟨w2.heap.size, 0, none⟩ 1 1 [.string t3] rfl rfl (cell_one_new _ _ _) (fun x hx => by simp at hx; subst hx; rfl) (by unfold maxLen; omega) (by omega) (by simp; omega) ?_; intro v' w5 hown' hgrow hnil' hat'))
            have HO5 := Lib.hid (own_next hown' HT.out HKB.out)
            have H5 := Lib.hid (H3.out.grew HO3.out hgrow)
            have HB5 := Lib.hid (grew_below HB3.out (by simp; omega) HO3.out hgrow)
            clear hown' hgrow hnil' hat'
            go_wp2_with fail
            go_roundw
            case rel => exact ⟨k + 1, _, by go_num, by omega, H5.out, HF2.out, HO5.out, HB5.out⟩
            case measure => simp [intOf]; omega
          | false =>
            rw [hb] at hcell hcelld HKB
            clear hb
            have HO5 := Lib.hid (own_same HO2.out HKB.out)
            go_wp2_with fail
            go_roundw
            case rel => exact ⟨k + 1, _, by go_num, by omega, H2.out, HF2.out, HO5.out, HB2.out⟩
            case measure => simp [intOf]; omega
        · have HKB : Hid (keepB false kp k = true) := by
            show (false || (kp[k]?).getD true) = _
            rw [List.getElem?_eq_none (by omega)]
            rfl
          go_wp2_with (first | (at_builtin; refine wpList_append_own_at _ rfl _ _ 28 rfl w.heap.size 9 i0 (.string ByteArray.empty) 1 16 Try.underlying28 hi hz0 hz1 hz2 rfl (by decide) _ _ _ rfl HO3.out ⟨w2.heap.size, 0, none⟩ 1 1 [.string t3] rfl rfl (cell_one_new _ _ _) (fun x hx => by simp at hx; subst hx; rfl) (by unfold maxLen; omega) (by omega) (by simp; omega) ?_; intro v' w5 hown' hgrow hnil' hat'))
          have HO5 := Lib.hid (own_next hown' HT.out HKB.out)
          have H5 := Lib.hid (H3.out.grew HO3.out hgrow)
          have HB5 := Lib.hid (grew_below HB3.out (by simp; omega) HO3.out hgrow)
          clear hown' hgrow hnil' hat'
          go_wp2_with fail
          go_roundw
          case rel => exact ⟨k + 1, _, by go_num, by omega, H5.out, HF2.out, HO5.out, HB5.out⟩
          case measure => simp [intOf]; omega
    · obtain rfl : k = n + 1 := by omega
      have hwl := wantN_length sy kp (n + 1)
      have hsc := HF.out.c
      have hsz := HF.out.size
      cases sy with
      | true =>
        have HSd := Lib.hid (syncdir_dxK (S1 := S.count) HX.out _ (handed_plain HX.out HF.out.p (by omega) _))
        go_wp2_with fail
        refine HSd.out.mono ?_
        rintro e w5 ⟨v, rfl, ⟨b5, t5⟩, rfl, h5⟩
        have H5 := Lib.hid h5
        have HN5 : Hid (NmIs (nowOf S.count.lasting.ts kp S.count.lasting.ls) (oldN :: wantN true kp (n + 1))) := HF.out.nm
        have HO5 := Lib.hid (strOwn_keepT HO.out t5)
        have HB5 : Hid (Below w.heap.size w w5) := HB.out.trans b5
        clear h5 b5 t5 HSd
        generalize S.count.lasting = S5 at *
        have k6 : Keeps [] w5 (w5.alloc (.cells #[.string ⟨#[111, 108, 100]⟩] 9)) := (Keeps.refl [] w5).alloc _
        have H6 := Lib.hid (H5.out.keep k6)
        have HO6 := Lib.hid (strOwn_keepT HO5.out (k6.keepT (by simp)))
        have HB6 : Hid (Below w.heap.size w (w5.alloc (.cells #[.string ⟨#[111, 108, 100]⟩] 9))) := HB5.out.trans (k6.below HB5.out.size (by simp))
        have hsz5 := HB5.out.size
        clear k6
        go_wp2_with (first | (at_builtin; refine wpList_append_own_at _ rfl _ _ 28 rfl w.heap.size 9 i0 (.string ByteArray.empty) 1 16 Try.underlying28 hi hz0 hz1 hz2 rfl (by decide) _ _ _ rfl HO6.out ⟨w5.heap.size, 0, none⟩ 1 1 [.string ⟨#[111, 108, 100]⟩] rfl rfl (cell_one_new _ _ _) (fun x hx => by simp at hx; subst hx; rfl) (by unfold maxLen; omega) (by omega) (by simp; omega) ?_; intro v' w7 hown' hgrow hnil' hat'))
        have HW7 := Lib.hid (own_last hown' rfl)
        have h7 := H6.out.grew HO6.out hgrow
        have HB7 := Lib.hid (grew_below HB6.out (by simp; omega) HO6.out hgrow)
        have HCr := Lib.hid (crash_dxK h7 (.slice none 0 0) (.slice p kp.length cap) [] kp (.inr ⟨rfl, _, _, rfl⟩) (came_arg HL.out HB7.out h7.files_at) (by intro p' n' c' e; cases e; omega))
        clear h7 hown' hgrow hnil' hat' H6 HO6 HB6
        go_wp2_with fail
        refine HCr.out.mono ?_
        rintro e w8 ⟨⟨_, rfl⟩, hcr, t8⟩
        obtain ⟨b8, S8, h8, f8⟩ := crashed_firms HN5.out hcr
        have HB8 : Hid (Below w.heap.size w w8) := HB7.out.trans b8
        have HW8 := Lib.hid (HW7.out.keepT t8)
        have H8 := Lib.hid h8
        have F8 := Lib.hid f8
        have HLi := Lib.hid (list_firms h8 f8 (by omega))
        clear hcr b8 t8 h8 f8 HCr HW7
        go_wp2_with fail
        refine HLi.out.mono ?_
        rintro e w9 ⟨v9, rfl, hr9, k9⟩
        have HR9 := Lib.hid hr9
        have HW9 := Lib.hid (HW8.out.keep k9)
        have HB9 : Hid (Below w.heap.size w w9) := HB8.out.trans (k9.below HB8.out.size (by simp))
        have HCr := Lib.hid (crash_dxK (H8.out.keep k9) (.slice none 0 0) (.slice none 0 0) [] [] (.inr ⟨rfl, _, _, rfl⟩) (.inr ⟨rfl, _, _, rfl⟩) (by intro p' n' c' e; cases e; omega))
        clear hr9 k9 HLi HW8
        go_wp2_with fail
        refine HCr.out.mono ?_
        rintro e w10 ⟨⟨_, rfl⟩, hcr, t10⟩
        obtain ⟨b10, S10, h10, f10⟩ := crashed_firms (F8.out.now []) hcr
        have HB10 : Hid (Below w.heap.size w w10) := HB9.out.trans b10
        have HW10 := Lib.hid (HW9.out.keepT t10)
        have HR10 := Lib.hid (HR9.out.keepT t10)
        have H10 := Lib.hid h10
        have F10 := Lib.hid f10
        have hwl2 : (wantN true kp (n + 1) ++ [oldN]).length ≤ 1000 := by rw [List.length_append, List.length_singleton]; omega
        have HSa := Lib.hid (same_self w10 _ _ _ HR10.out HW10.out hwl2)
        clear hcr b10 t10 h10 f10 HCr
        go_wp2_with fail
        refine HSa.out.mono ?_
        rintro e w11 ⟨rfl, k11⟩
        have HB11 : Hid (Below w.heap.size w w11) := HB10.out.trans (k11.below HB10.out.size (by simp))
        have HLi := Lib.hid (list_firms (H10.out.keep k11) F10.out (by omega))
        have HW11 := Lib.hid (HW10.out.keep k11)
        clear k11
        go_wp2_with fail
        refine HLi.out.mono ?_
        rintro e w12 ⟨v12, rfl, hr12, k12⟩
        have HB12 : Hid (Below w.heap.size w w12) := HB11.out.trans (k12.below HB11.out.size (by simp))
        have HSb := Lib.hid (same_self w12 _ _ _ hr12 (HW11.out.keep k12) hwl2)
        clear hr12 k12
        go_wp2_with fail
        refine HSb.out.mono ?_
        rintro e w13 ⟨rfl, k13⟩
        have HB13 : Hid (Below w.heap.size w w13) := HB12.out.trans (k13.below HB12.out.size (by simp))
        clear k13
        go_wp2_with fail
        refine (awake_any w13).mono ?_
        rintro e w14 ⟨rfl, b14⟩
        have HB14 := Lib.hid b14
        clear b14
        go_wp2
        go_ret
        exact ⟨rfl, HB13.out.trans (HB14.out.mono HB13.out.size)⟩
      | false =>
        have H5 := HX
        have HN5 : Hid (NmIs (nowOf S.ts kp S.ls) (oldN :: wantN false kp (n + 1))) := Lib.hid HF.out.now
        have HO5 := HO
        have HB5 := HB
        generalize wr = w5 at *
        have k6 : Keeps [] w5 (w5.alloc (.cells #[.string ⟨#[111, 108, 100]⟩] 9)) := (Keeps.refl [] w5).alloc _
        have H6 := Lib.hid (H5.out.keep k6)
        have HO6 := Lib.hid (strOwn_keepT HO5.out (k6.keepT (by simp)))
        have HB6 : Hid (Below w.heap.size w (w5.alloc (.cells #[.string ⟨#[111, 108, 100]⟩] 9))) := HB5.out.trans (k6.below HB5.out.size (by simp))
        have hsz5 := HB5.out.size
        clear k6
        go_wp2_with (first | (at_builtin; refine wpList_append_own_at _ rfl _ _ 28 rfl w.heap.size 9 i0 (.string ByteArray.empty) 1 16 Try.underlying28 hi hz0 hz1 hz2 rfl (by decide) _ _ _ rfl HO6.out ⟨w5.heap.size, 0, none⟩ 1 1 [.string ⟨#[111, 108, 100]⟩] rfl rfl (cell_one_new _ _ _) (fun x hx => by simp at hx; subst hx; rfl) (by unfold maxLen; omega) (by omega) (by simp; omega) ?_; intro v' w7 hown' hgrow hnil' hat'))
        have HW7 := Lib.hid (own_last hown' rfl)
        have h7 := H6.out.grew HO6.out hgrow
        have HB7 := Lib.hid (grew_below HB6.out (by simp; omega) HO6.out hgrow)
        have HCr := Lib.hid (crash_dxK h7 (.slice none 0 0) (.slice p kp.length cap) [] kp (.inr ⟨rfl, _, _, rfl⟩) (came_arg HL.out HB7.out h7.files_at) (by intro p' n' c' e; cases e; omega))
        clear h7 hown' hgrow hnil' hat' H6 HO6 HB6
        go_wp2_with fail
        refine HCr.out.mono ?_
        rintro e w8 ⟨⟨_, rfl⟩, hcr, t8⟩
        obtain ⟨b8, S8, h8, f8⟩ := crashed_firms HN5.out hcr
        have HB8 : Hid (Below w.heap.size w w8) := HB7.out.trans b8
        have HW8 := Lib.hid (HW7.out.keepT t8)
        have H8 := Lib.hid h8
        have F8 := Lib.hid f8
        have HLi := Lib.hid (list_firms h8 f8 (by omega))
        clear hcr b8 t8 h8 f8 HCr HW7
        go_wp2_with fail
        refine HLi.out.mono ?_
        rintro e w9 ⟨v9, rfl, hr9, k9⟩
        have HR9 := Lib.hid hr9
        have HW9 := Lib.hid (HW8.out.keep k9)
        have HB9 : Hid (Below w.heap.size w w9) := HB8.out.trans (k9.below HB8.out.size (by simp))
        have HCr := Lib.hid (crash_dxK (H8.out.keep k9) (.slice none 0 0) (.slice none 0 0) [] [] (.inr ⟨rfl, _, _, rfl⟩) (.inr ⟨rfl, _, _, rfl⟩) (by intro p' n' c' e; cases e; omega))
        clear hr9 k9 HLi HW8
        go_wp2_with fail
        refine HCr.out.mono ?_
        rintro e w10 ⟨⟨_, rfl⟩, hcr, t10⟩
        obtain ⟨b10, S10, h10, f10⟩ := crashed_firms (F8.out.now []) hcr
        have HB10 : Hid (Below w.heap.size w w10) := HB9.out.trans b10
        have HW10 := Lib.hid (HW9.out.keepT t10)
        have HR10 := Lib.hid (HR9.out.keepT t10)
        have H10 := Lib.hid h10
        have F10 := Lib.hid f10
        have hwl2 : (wantN false kp (n + 1) ++ [oldN]).length ≤ 1000 := by rw [List.length_append, List.length_singleton]; omega
        have HSa := Lib.hid (same_self w10 _ _ _ HR10.out HW10.out hwl2)
        clear hcr b10 t10 h10 f10 HCr
        go_wp2_with fail
        refine HSa.out.mono ?_
        rintro e w11 ⟨rfl, k11⟩
        have HB11 : Hid (Below w.heap.size w w11) := HB10.out.trans (k11.below HB10.out.size (by simp))
        have HLi := Lib.hid (list_firms (H10.out.keep k11) F10.out (by omega))
        have HW11 := Lib.hid (HW10.out.keep k11)
        clear k11
        go_wp2_with fail
        refine HLi.out.mono ?_
        rintro e w12 ⟨v12, rfl, hr12, k12⟩
        have HB12 : Hid (Below w.heap.size w w12) := HB11.out.trans (k12.below HB11.out.size (by simp))
        have HSb := Lib.hid (same_self w12 _ _ _ hr12 (HW11.out.keep k12) hwl2)
        clear hr12 k12
        go_wp2_with fail
        refine HSb.out.mono ?_
        rintro e w13 ⟨rfl, k13⟩
        have HB13 : Hid (Below w.heap.size w w13) := HB12.out.trans (k13.below HB12.out.size (by simp))
        clear k13
        go_wp2_with fail
        refine (awake_any w13).mono ?_
        rintro e w14 ⟨rfl, b14⟩
        have HB14 := Lib.hid b14
        clear b14
        go_wp2
        go_ret
        exact ⟨rfl, HB13.out.trans (HB14.out.mono HB13.out.size)⟩
end Go.Proofs.Ytebkgkaihjoamaa
