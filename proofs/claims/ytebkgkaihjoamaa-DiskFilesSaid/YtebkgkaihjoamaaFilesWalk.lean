/- The walk of DiskFiles: it answers true. -/
import Derived.Test.YtebkgkaihjoamaaFilesP
import Derived.Test.YtebkgkaihjoamaaOpens
namespace Go.Proofs.Ytebkgkaihjoamaa
open Go.RowKit Go.Proofs

set_option maxRecDepth 100000 in
set_option maxHeartbeats 8000000 in
theorem files_walk (n0 : Int) (s : ByteArray) (w : World) (_h0 : (Lit.int .i64 n0).wf = true) (hs : s.size ≤ maxLen) : Calls Try.prog 4 #[.int .i64 n0, .string s] w (IsTrue w) := by
  obtain ⟨n, hn, hn2⟩ := mask_nat n0 3 (by omega)
  simp only [Nat.reducePow, Nat.reduceSub] at hn hn2
  have hn' : bits BinOp.and IntKind.i64 n0 7 = (n : Int) := hn
  clear hn
  have hnil := eql_disk_some
  have hsm : s.size ≤ 9223372036854775807 := by unfold maxLen at hs; omega
  rcases Nat.lt_or_ge 100 s.size with hbig | hsmall
  · go_enter Try.func4, Try.ntmps4
    go_wp2_with fail
    refine (new_dx w 1000 (by omega)).mono ?_
    rintro e w1 ⟨rfl, h1, b1⟩
    have HB1 := Lib.hid b1
    clear h1 b1
    go_wp2_with fail
    refine (awake_any w1).mono ?_
    rintro e w7 ⟨rfl, b7⟩
    have HB7 := Lib.hid b7
    clear b7
    go_wp2
    go_ret
    exact ⟨rfl, HB1.out.trans (HB7.out.mono HB1.out.size)⟩
  · go_enter Try.func4, Try.ntmps4
    go_wp2_with fail
    refine (new_dx w 1000 (by omega)).mono ?_
    rintro e w1 ⟨rfl, h1, b1⟩
    have HF1 := Lib.hid (FilesS.new 1000)
    have H1 := Lib.hid h1
    have HB1 := Lib.hid b1
    clear h1 b1
    go_wp2_with fail
    go_loopw [6] (fun vi wr => ∃ (k : Nat) (S : St), vi = .int .i64 (k : Int) ∧ k ≤ n + 60 ∧ DX w.heap.size wr (w.heap.size + 1 + 1) S ∧ FilesS S k ∧ Below w.heap.size w wr) (fun vi _ => 70 - (intOf vi).toNat)
    case atStart => exact ⟨0, _, rfl, Nat.zero_le _, H1.out, HF1.out, HB1.out⟩
    case round =>
      clear HF1 H1 HB1
      obtain ⟨k, S, rfl, hkn, hX, hF, hB⟩ := hrel
      have HX := Lib.hid hX
      have HF := Lib.hid hF
      have HB := Lib.hid hB
      clear hX hF hB
      by_cases hlt : k < n + 60
      · have hk67 : k < 67 := by omega
        obtain ⟨t2, t3, hcv, hadd, hadd2, ht3⟩ := fName_comes wr k hk67
        have HT := Lib.hid ht3
        have kA : Keeps [] wr (wr.alloc (.cells #[.int .u8 (97 + (k : Int) / 26), .int .u8 (97 + (k : Int) % 26)] 5)) := (Keeps.refl [] wr).alloc _
        have hBA : Below w.heap.size w (wr.alloc (.cells #[.int .u8 (97 + (k : Int) / 26), .int .u8 (97 + (k : Int) % 26)] 5)) := HB.out.trans (kA.below HB.out.size (by simp))
        have HBA := Lib.hid hBA
        have hsz := HF.out.size
        have hsc := HF.out.c
        have hfz : t3.size ≤ maxLen := by rw [ht3]; show 3 ≤ maxLen; decide
        have hok : nameOk t3 = true := by rw [ht3]; exact fName_ok k hk67
        have hms : fileOf S.nm t3.data.toList = noFile := by rw [ht3]; exact HF.out.miss hk67
        clear ht3
        rcases Nat.lt_or_ge k 64 with hk | hk
        · have HC := Lib.hid (create_dx (HX.out.keep kA) HF.out.p (by omega) t3 hfz hok hms (by omega))
          clear kA hBA hfz hok hms
          go_wp2_with fail
          refine HC.out.mono ?_
          rintro e w2 ⟨rfl, b2, f, hf, h2⟩
          have HB2 : Hid (Below w.heap.size w w2) := HBA.out.trans b2
          have H2 := Lib.hid h2
          have HF2 : Hid (FilesS (S.made t3 f) (k + 1)) := by rw [HT.out]; exact HF.out.made hk f
          clear b2 h2 HC
          go_wp2_with fail
          go_roundw
          case rel => exact ⟨k + 1, _, by go_num, by omega, H2.out, HF2.out, HB2.out⟩
          case measure => simp [intOf]; omega
        · have HC := Lib.hid (create_many (HX.out.keep kA) HF.out.p (by omega) t3 hfz hok hms (by omega))
          clear kA hBA hfz hok hms
          go_wp2_with fail
          refine HC.out.mono ?_
          rintro e w2 ⟨rfl, b2, h2⟩
          have HB2 : Hid (Below w.heap.size w w2) := HBA.out.trans b2
          have H2 := Lib.hid h2
          have HF2 := Lib.hid (HF.out.more hk)
          clear b2 h2 HC
          go_wp2_with fail
          go_roundw
          case rel => exact ⟨k + 1, _, by go_num, by omega, H2.out, HF2.out, HB2.out⟩
          case measure => simp [intOf]; omega
      · obtain rfl : k = n + 60 := by omega
        have HCa := Lib.hid (calls_dx HX.out)
        rw [HF.out.c] at HCa
        have HLi := Lib.hid (list_files HX.out HF.out)
        go_wp2_with fail
        refine HCa.out.mono ?_
        rintro e w2 ⟨rfl, rfl⟩
        go_wp2_with fail
        refine HLi.out.mono ?_
        rintro e w3 ⟨p, cap, rfl, k3⟩
        have HX3 := Lib.hid (HX.out.keep k3)
        have HB3 : Hid (Below w.heap.size w w3) := HB.out.trans (k3.below HB.out.size (by simp))
        clear k3 HX HB HLi HCa
        go_wp2_with fail
        have HOk := Lib.hid (ok_any s hsmall w3)
        cases hok : nameOk s with
        | true =>
          rw [hok] at HOk
          clear hok
          refine HOk.out.mono ?_
          rintro e w4 ⟨rfl, rfl⟩
          go_wp2_with fail
          refine (awake_any w3).mono ?_
          rintro e w7 ⟨rfl, b7⟩
          have HB7 := Lib.hid b7
          clear b7
          go_wp2
          go_ret
          exact ⟨rfl, HB3.out.trans (HB7.out.mono HB3.out.size)⟩
        | false =>
          rw [hok] at HOk
          have HN := Lib.hid hok
          clear hok
          refine HOk.out.mono ?_
          rintro e w4 ⟨rfl, rfl⟩
          go_wp2_with fail
          refine (read_bad s hs HN.out 0 1).mono ?_
          rintro e w4 ⟨rfl, rfl⟩
          go_wp2_with fail
          refine (size_bad s hs HN.out).mono ?_
          rintro e w4 ⟨rfl, rfl⟩
          go_wp2_with fail
          refine (create_bad s hs HN.out).mono ?_
          rintro e w4 ⟨rfl, k4⟩
          have HK4 := Lib.hid k4
          clear k4
          go_wp2_with fail
          refine (append_bad s hs HN.out none 0 0).mono ?_
          rintro e w5 ⟨rfl, k5⟩
          have HK5 := Lib.hid (HK4.out.trans k5)
          clear k5 HK4
          go_wp2_with fail
          refine (sync_bad s hs HN.out).mono ?_
          rintro e w6 ⟨rfl, k6⟩
          have HK6 := Lib.hid (HK5.out.trans k6)
          clear k6 HK5
          go_wp2_with fail
          refine (remove_bad s hs HN.out).mono ?_
          rintro e w7 ⟨rfl, k7⟩
          have HK7 := Lib.hid (HK6.out.trans k7)
          clear k7 HK6
          go_wp2_with fail
          refine (rename_bad s ⟨#[97]⟩ hs HN.out (by decide) (by decide)).mono ?_
          rintro e w8 ⟨rfl, k8⟩
          have HK8 := Lib.hid (HK7.out.trans k8)
          clear k8 HK7
          go_wp2_with fail
          refine (rename_to_bad ⟨#[102, 97, 97]⟩ s hs HN.out).mono ?_
          rintro e w9 ⟨rfl, k9⟩
          have HK9 := Lib.hid (HK8.out.trans k9)
          clear k9 HK8
          have HCb := Lib.hid (calls_dx (HX3.out.keep HK9.out))
          rw [HF.out.c] at HCb
          have HB9 : Hid (Below w.heap.size w w9) := HB3.out.trans (HK9.out.below HB3.out.size (by simp))
          go_wp2_with fail
          refine HCb.out.mono ?_
          rintro e w10 ⟨rfl, rfl⟩
          go_wp2_with fail
          refine (awake_any w9).mono ?_
          rintro e w10 ⟨rfl, b10⟩
          have HB10 := Lib.hid b10
          clear b10
          go_wp2
          go_ret
          exact ⟨rfl, HB9.out.trans (HB10.out.mono HB9.out.size)⟩
end Go.Proofs.Ytebkgkaihjoamaa
