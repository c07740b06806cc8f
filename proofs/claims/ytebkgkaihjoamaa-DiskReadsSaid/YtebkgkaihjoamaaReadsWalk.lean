/- The walk of DiskReads: it answers true. -/
import Derived.Test.YtebkgkaihjoamaaMask
namespace Go.Proofs.Ytebkgkaihjoamaa
open Go.RowKit Go.Proofs

set_option maxRecDepth 100000 in
set_option maxHeartbeats 1000000 in
theorem reads_walk (long at_ n : Int) (w : World) (_h0 : (Lit.int .i64 long).wf = true) (h1 : (Lit.int .i64 at_).wf = true) (h2 : (Lit.int .i64 n).wf = true) : Calls Try.prog 5 #[.int .i64 long, .int .i64 at_, .int .i64 n] w (IsTrue w) := by
  obtain ⟨K, hK, hK2⟩ := mask_nat long 10 (by omega)
  simp only [Nat.reducePow, Nat.reduceSub] at hK hK2
  have hK' : bits BinOp.and IntKind.i64 long 1023 = (K : Int) := hK
  clear hK
  have hnil := eql_disk_some
  have hcv := conv_run
  go_enter Try.func5, Try.ntmps5
  go_wp2_with fail
  refine (new_dx w 1048576 (by omega)).mono ?_
  rintro e w1 ⟨rfl, h1', b1⟩
  have H1 := Lib.hid h1'
  have HB1 := Lib.hid b1
  clear h1' b1
  go_wp2_with fail
  refine (bytes_any w1 5 K (by omega) (by omega)).mono ?_
  rintro e w2 ⟨rfl, k2⟩
  have H2 := Lib.hid (H1.out.keep k2)
  have HK2 := Lib.hid k2
  clear k2
  go_wp2_with fail
  have hbl := bytesOf_length 5 K
  generalize bytesOf 5 K = bs at *
  refine (create_dx H2.out (St.new_plain _) (by simp [St.new]) ⟨#[102]⟩ (by decide) (by decide) rfl (by simp [St.new, Maps.size])).mono ?_
  rintro e w3 ⟨rfl, b3, f, hf, h3⟩
  have HB3 := Lib.hid b3
  have hDl3 := h3.base_le.2.2
  have hX3 := h3.keep (conv_keeps w3 (textOf bs))
  have HApp := Lib.hid (append_one hX3 (One.new 1048576 ⟨#[102]⟩ f) (Plain.new 1048576 ⟨#[102]⟩ f) (by simp [St.made, St.new]) rfl (by decide) (by decide) _ bs (conv_text w3 bs) (conv_off w3 (textOf bs) hDl3) (by simp; omega))
  clear h3 b3 hX3
  go_wp2_with fail
  refine HApp.out.mono ?_
  rintro e w4 ⟨rfl, b4, h4⟩
  have o4 := (One.new 1048576 ⟨#[102]⟩ f).put bs 0
  have hc4 : (((St.new 1048576).made ⟨#[102]⟩ f).count.file f ([] ++ bs) 0).c = 2 := rfl
  rw [List.nil_append] at h4 hc4
  have hp4 := Plain.put (Plain.new 1048576 ⟨#[102]⟩ f) f bs 0
  generalize (((St.new 1048576).made ⟨#[102]⟩ f).count.file f bs 0) = S4 at h4 o4 hc4 hp4
  have H4 := Lib.hid h4
  have O4 := Lib.hid o4
  have P4 := Lib.hid hp4
  have HB4 := Lib.hid b4
  have HC4 := Lib.hid hc4
  clear h4 b4 HApp o4 hp4 hc4
  have HBel : Hid (Below w.heap.size w w4) := by
    have l1 := HB1.out.size
    have l2 := HK2.out.size
    have l3 := HB3.out.size
    exact HB1.out.trans ((HK2.out.below (by omega) (by simp)).trans (HB3.out.trans (((conv_keeps w3 (textOf bs)).below (by omega) (by simp)).trans HB4.out)))
  have hsz4 : w.heap.size ≤ w4.heap.size := HBel.out.size
  go_wp2_with fail
  by_cases hneg : at_ < 0 ∨ n < 0
  · refine (read_dx_neg H4.out P4.out.dead ⟨#[102]⟩ (by decide) (by decide) f O4.out.file at_ n hneg).mono ?_
    rintro e w5 ⟨rfl, rfl⟩
    have HAw := Lib.hid (awake_any w4)
    rcases hneg with hneg | hneg
    · go_wp2_with fail
      refine HAw.out.mono ?_
      rintro e w5 ⟨rfl, b5⟩
      have HB5 := Lib.hid b5
      clear b5
      go_wp2
      go_ret
      exact ⟨rfl, HBel.out.trans (HB5.out.mono hsz4)⟩
    · by_cases ha : at_ < 0
      · go_wp2_with fail
        refine HAw.out.mono ?_
        rintro e w5 ⟨rfl, b5⟩
        have HB5 := Lib.hid b5
        clear b5
        go_wp2
        go_ret
        exact ⟨rfl, HBel.out.trans (HB5.out.mono hsz4)⟩
      · go_wp2_with fail
        refine HAw.out.mono ?_
        rintro e w5 ⟨rfl, b5⟩
        have HB5 := Lib.hid b5
        clear b5
        go_wp2
        go_ret
        exact ⟨rfl, HBel.out.trans (HB5.out.mono hsz4)⟩
  · obtain ⟨a, rfl⟩ := Int.eq_ofNat_of_zero_le (show 0 ≤ at_ by omega)
    obtain ⟨m, rfl⟩ := Int.eq_ofNat_of_zero_le (show 0 ≤ n by omega)
    refine (read_dx H4.out P4.out.dead ⟨#[102]⟩ (by decide) (by decide) f O4.out.file a m).mono ?_
    rintro e w5 ⟨v5, rfl, hr5, k5⟩
    rw [O4.out.con] at hr5
    have hst := reads_string hr5
    have HCa := Lib.hid (fun (W : World) (k : Keeps [] w4 W) => calls_dx (H4.out.keep k))
    rw [HC4.out] at HCa
    have HMi := Lib.hid (fun (W : World) (k : Keeps [] w4 W) => read_dx_miss (H4.out.keep k) P4.out.dead ⟨#[103]⟩ (by decide) (by decide) (by rw [O4.out.nm]; exact fileOf_other _ _ _ (by decide)) 0 1)
    have HK5 := Lib.hid k5
    clear hr5 k5
    by_cases hal : a < bs.length
    · rcases Nat.lt_or_ge (bs.length - a) m with hm | hm
      · have hsl := fun W => slice_text W bs a bs.length (a : Int) ((a : Int) + ((K : Int) - (a : Int))) rfl (by omega) (by omega) (Nat.le_refl _)
        have hmK : ¬ ((m : Int) ≤ (K : Int) - (a : Int)) := by omega
        have hlt2 : (K : Int) - (a : Int) < (m : Int) := by omega
        have e1 : (bs.drop a).take (bs.length - a) = (bs.drop a).take m := by
          rw [List.take_of_length_le (by simp), List.take_of_length_le (by simp; omega)]
        rw [e1] at hsl
        have HE := Lib.hid e1
        clear e1
        generalize (bs.drop a).take m = cs at *
        have heq : ((textOf cs).toList == (textOf cs).toList) = true := by simp
        go_wp2_with fail
        refine (HCa.out w5 HK5.out).mono ?_
        rintro e w6 ⟨rfl, rfl⟩
        go_wp2_with fail
        refine (HMi.out w5 HK5.out).mono ?_
        rintro e w6 ⟨rfl, rfl⟩
        go_wp2_with fail
        refine (HCa.out w5 HK5.out).mono ?_
        rintro e w6 ⟨rfl, rfl⟩
        go_wp2_with fail
        refine (awake_any w5).mono ?_
        rintro e w6 ⟨rfl, b6⟩
        have HB6 := Lib.hid b6
        clear b6
        go_wp2
        go_ret
        exact ⟨rfl, HBel.out.trans ((HK5.out.below hsz4 (by simp)).trans (HB6.out.mono (by have := HK5.out.size; omega)))⟩
      · have hsl := fun W => slice_text W bs a (a + m) (a : Int) ((a : Int) + (m : Int)) rfl (by omega) (by omega) (by omega)
        rw [show a + m - a = m by omega] at hsl
        have hmK : (m : Int) ≤ (K : Int) - (a : Int) := by omega
        generalize (bs.drop a).take m = cs at *
        have heq : ((textOf cs).toList == (textOf cs).toList) = true := by simp
        go_wp2_with fail
        refine (HCa.out w5 HK5.out).mono ?_
        rintro e w6 ⟨rfl, rfl⟩
        go_wp2_with fail
        refine (HMi.out w5 HK5.out).mono ?_
        rintro e w6 ⟨rfl, rfl⟩
        go_wp2_with fail
        refine (HCa.out w5 HK5.out).mono ?_
        rintro e w6 ⟨rfl, rfl⟩
        go_wp2_with fail
        refine (awake_any w5).mono ?_
        rintro e w6 ⟨rfl, b6⟩
        have HB6 := Lib.hid b6
        clear b6
        go_wp2
        go_ret
        exact ⟨rfl, HBel.out.trans ((HK5.out.below hsz4 (by simp)).trans (HB6.out.mono (by have := HK5.out.size; omega)))⟩
    · have e1 : (bs.drop a).take m = [] := by rw [List.drop_eq_nil_of_le (by omega)]; simp
      rw [e1] at hst
      clear e1
      have heq : ((⟨#[]⟩ : ByteArray).toList == (⟨#[]⟩ : ByteArray).toList) = true := by simp
      go_wp2_with fail
      refine (HCa.out w5 HK5.out).mono ?_
      rintro e w6 ⟨rfl, rfl⟩
      go_wp2_with fail
      refine (HMi.out w5 HK5.out).mono ?_
      rintro e w6 ⟨rfl, rfl⟩
      go_wp2_with fail
      refine (HCa.out w5 HK5.out).mono ?_
      rintro e w6 ⟨rfl, rfl⟩
      go_wp2_with fail
      refine (awake_any w5).mono ?_
      rintro e w6 ⟨rfl, b6⟩
      have HB6 := Lib.hid b6
      clear b6
      go_wp2
      go_ret
      exact ⟨rfl, HBel.out.trans ((HK5.out.below hsz4 (by simp)).trans (HB6.out.mono (by have := HK5.out.size; omega)))⟩
end Go.Proofs.Ytebkgkaihjoamaa
