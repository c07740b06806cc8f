/- The walk of DiskFails: it answers true. -/
import Derived.Test.YtebkgkaihjoamaaOneH
namespace Go.Proofs.Ytebkgkaihjoamaa
open Go.RowKit Go.Proofs

/-- the disk's state ahead of the k-th round of DiskFails: one file of the bytes ss; the n-th call from there on fails -/
structure FailS (S : St) (f : Nat) (ss : List UInt8) (k n : Nat) (fe : Int) : Prop where
  o : One S ⟨#[102]⟩ f ss 0
  c : S.c = 1 + k
  fl : S.fl = ((n - k : Nat) : Int)
  st : S.st ≤ 0
  dead : S.dead = false
  fe : S.fe = fe
  q : S.q = 1048576
set_option maxRecDepth 100000 in
set_option maxHeartbeats 4000000 in
theorem fails_walk0 (n0 : Int) (full : Bool) (p : Option Addr) (cap : Nat) (l : List Int) (w : World) (hl : Came w p l.length cap (intsV l)) (fe : Int) (hfe : fe = (if full = true then 15 else 51)) : Calls Try.prog 8 #[.int .i64 n0, .bool full, .slice p l.length cap] w (IsTrue w) := by
  obtain ⟨K, hK, hK2⟩ := mask_nat n0 4 (by omega)
  simp only [Nat.reducePow, Nat.reduceSub] at hK hK2
  have hK' : bits BinOp.and IntKind.i64 n0 15 = (K : Int) := hK
  clear hK
  have hlm := hl.2.1
  have hnil := eql_disk_some
  have hcv := conv_run
  have HL := Lib.hid hl
  clear hl
  cases full
  · simp only [Bool.false_eq_true, if_false] at hfe
    subst hfe
    go_enter Try.func8, Try.ntmps8
    go_wp2_with fail
    refine (new_dx w 1048576 (by omega)).mono ?_
    rintro e w1 ⟨rfl, h1, b1⟩
    have H1 := Lib.hid h1
    have HB1 := Lib.hid b1
    clear h1 b1
    go_wp2_with fail
    refine (create_dx H1.out (St.new_plain _) (by simp [St.new]) ⟨#[102]⟩ (by decide) (by decide) rfl (by simp [St.new, Maps.size])).mono ?_
    rintro e w2 ⟨rfl, b2, f, hf, h2⟩
    have H2 := Lib.hid h2
    have HB2 := Lib.hid b2
    clear h2 b2
    obtain ⟨vf, N, L, vt, nn, nl, vb, hA⟩ := H2.out.at_
    have HFa := Lib.hid (fail_nat hA.d (K + 1) (by omega) _ (.inr rfl))
    rw [show ((K + 1 : Nat) : Int) = (K : Int) + 1 by omega] at HFa
    clear hA
    go_wp2_with fail
    refine HFa.out.mono ?_
    rintro e w3 ⟨⟨_, rfl⟩, rfl⟩
    have hk3 : Keeps [w.heap.size + 1 + 1] w2 ((w2.setCell ⟨w.heap.size + 1 + 1, 3, none⟩ (.int .i64 ((K : Int) + 1))).setCell ⟨w.heap.size + 1 + 1, 4, none⟩ (.int .i64 51)) := ((Keeps.refl _ w2).setCell _ _ fun _ => by simp).setCell _ _ fun _ => by simp
    have hX3 := H2.out.turnD hk3 1 (-1) ((K : Int) + 1) 51 false ⟨by simp [St.made, St.new], by omega⟩ (fun vf N L vt hd => (hd.fails _).failEs _)
    have hb3 : Below w.heap.size w ((w2.setCell ⟨w.heap.size + 1 + 1, 3, none⟩ (.int .i64 ((K : Int) + 1))).setCell ⟨w.heap.size + 1 + 1, 4, none⟩ (.int .i64 51)) := HB1.out.trans (HB2.out.trans (hk3.below H2.out.base_le.1 (by simp; omega)))
    generalize (w2.setCell ⟨w.heap.size + 1 + 1, 3, none⟩ (.int .i64 ((K : Int) + 1))).setCell ⟨w.heap.size + 1 + 1, 4, none⟩ (.int .i64 51) = w3 at *
    have HX3 := Lib.hid hX3
    have HB3 := Lib.hid hb3
    clear hX3 hb3 hk3 HFa
    go_wp2_with fail
    go_loopw [9, 10] (fun vs vi wr => ∃ (k : Nat) (ss : List UInt8) (S : St), vs = .string (textOf ss) ∧ vi = .int .i64 ((k : Int) + 1) ∧ k ≤ l.length ∧ k ≤ 30 ∧ ss.length ≤ 15 * k ∧ DX w.heap.size wr (w.heap.size + 1 + 1) S ∧ FailS S f ss k (K + 1) 51 ∧ Below w.heap.size w wr) (fun _ vi _ => 31 - (intOf vi).toNat)
    case atStart => exact ⟨0, [], _, rfl, by simp, Nat.zero_le _, Nat.zero_le _, by simp, HX3.out, ⟨⟨rfl, rfl, by simp [St.made]⟩, rfl, by simp, by simp, rfl, rfl, rfl⟩, HB3.out⟩
    case round =>
      obtain ⟨k, ss, S, rfl, rfl, hkl, hk30, hss, hX, hF, hB⟩ := hrel
      have HX := Lib.hid hX
      have FS := Lib.hid hF
      have HB := Lib.hid hB
      clear hX hF hB
      have hsc := FS.out.c
      by_cases hlt : k < l.length ∧ k < 30
      · obtain ⟨hlt1, hlt2⟩ := hlt
        obtain ⟨g, o, rfl, hg, hcell⟩ := came_int HL.out HB.out k hlt1
        obtain ⟨j, hj, hj2⟩ := mask_nat l[k] 4 (by omega)
        simp only [Nat.reducePow, Nat.reduceSub] at hj hj2
        have hj' : bits BinOp.and IntKind.i64 l[k] 15 = (j : Int) := hj
        clear hj
        have HBy := Lib.hid (bytes_any wr (k + 1) j (by omega) (by omega))
        rw [show ((k + 1 : Nat) : Int) = (k : Int) + 1 by omega] at HBy
        go_wp2_with fail
        refine HBy.out.mono ?_
        rintro e w5 ⟨rfl, k5⟩
        have hpl := bytesOf_length (k + 1) j
        generalize bytesOf (k + 1) j = p0 at *
        have hX5 := HX.out.keep k5
        have hXc := hX5.keep (conv_keeps w5 (textOf p0))
        have hDl5 := hX5.base_le.2.2
        have hadd := fun W => add_text W ss p0 (by omega)
        have hadd2 := fun W => add_text2 W ss p0 (by omega)
        have hB5 : Below w.heap.size w (convW w5 (textOf p0)) := HB.out.trans ((k5.trans (conv_keeps w5 (textOf p0))).below HB.out.size (by simp))
        have HB5 := Lib.hid hB5
        clear HBy hX5 hB5 k5
        rcases Nat.lt_trichotomy k K with hkK | hkK | hkK
        · have hfl : S.fl = ((K + 1 - k : Nat) : Int) := FS.out.fl
          have HAp := Lib.hid (append_oneH (S1 := S.nearer) hXc FS.out.o.nearer FS.out.dead FS.out.q (by decide) (by decide) _ p0 (conv_text w5 p0) (conv_off w5 (textOf p0) hDl5) (by omega) _ (handed_later hXc FS.out.dead FS.out.st (by omega) (by omega) _))
          have hne : ((k : Int) + 1 == (K : Int) + 1) = false := beq_eq_false_iff_ne.2 (by omega)
          clear hXc hfl
          go_wp2_with fail
          refine HAp.out.mono ?_
          rintro e w6 ⟨v, rfl, rfl, b6, h6⟩
          have HB6 := Lib.hid b6
          have H6 := Lib.hid h6
          clear b6 h6 HAp
          go_wp2_with fail
          go_roundw
          case rel => exact ⟨k + 1, ss ++ p0, _, by first | rfl | rw [text_append], by go_num, by omega, by omega, by simp; omega, H6.out, ⟨FS.out.o.nearer.put' _ _, by show S.c + 1 = _; omega, by show S.fl - 1 = _; have := FS.out.fl; omega, FS.out.st, FS.out.dead, FS.out.fe, FS.out.q⟩, HB5.out.trans HB6.out⟩
          case measure => simp [intOf]; omega
        · subst hkK
          have hfl : S.fl = 1 := by have := FS.out.fl; omega
          have HAp := Lib.hid (append_oneH (S1 := S.nearer) hXc FS.out.o.nearer FS.out.dead FS.out.q (by decide) (by decide) _ p0 (conv_text w5 p0) (conv_off w5 (textOf p0) hDl5) (by omega) _ (handed_now hXc FS.out.dead FS.out.st hfl (by omega) _))
          rw [FS.out.fe] at HAp
          clear hXc hfl
          go_wp2_with fail
          refine HAp.out.mono ?_
          rintro e w6 ⟨v, rfl, rfl, b6, h6⟩
          have HB6 := Lib.hid b6
          have H6 := Lib.hid h6
          clear b6 h6 HAp
          go_wp2_with fail
          go_roundw
          case rel => exact ⟨k + 1, ss, _, rfl, by go_num, by omega, by omega, by omega, H6.out, ⟨FS.out.o.nearer, by show S.c + 1 = _; omega, by show S.fl - 1 = _; have := FS.out.fl; omega, FS.out.st, FS.out.dead, FS.out.fe, FS.out.q⟩, HB5.out.trans HB6.out⟩
          case measure => simp [intOf]; omega
        · have hfl : S.fl = 0 := by have := FS.out.fl; omega
          have HAp := Lib.hid (append_oneH (S1 := S.count) hXc FS.out.o.count FS.out.dead FS.out.q (by decide) (by decide) _ p0 (conv_text w5 p0) (conv_off w5 (textOf p0) hDl5) (by omega) _ (handed_plain hXc ⟨FS.out.dead, hfl, FS.out.st⟩ (by omega) _))
          have hne : ((k : Int) + 1 == (K : Int) + 1) = false := beq_eq_false_iff_ne.2 (by omega)
          clear hXc hfl
          go_wp2_with fail
          refine HAp.out.mono ?_
          rintro e w6 ⟨v, rfl, rfl, b6, h6⟩
          have HB6 := Lib.hid b6
          have H6 := Lib.hid h6
          clear b6 h6 HAp
          go_wp2_with fail
          go_roundw
          case rel => exact ⟨k + 1, ss ++ p0, _, by first | rfl | rw [text_append], by go_num, by omega, by omega, by simp; omega, H6.out, ⟨FS.out.o.count.put' _ _, by show S.c + 1 = _; omega, by show S.fl = _; have := FS.out.fl; omega, FS.out.st, FS.out.dead, FS.out.fe, FS.out.q⟩, HB5.out.trans HB6.out⟩
          case measure => simp [intOf]; omega
      · have hrd := read_dx HX.out FS.out.dead ⟨#[102]⟩ (by decide) (by decide) f FS.out.o.file 0 10000
        rw [FS.out.o.con, List.drop_zero, List.take_of_length_le (by show ss.length ≤ 10000; omega)] at hrd
        have HRd := Lib.hid hrd
        have HCa := Lib.hid (fun (W : World) (kk : Keeps [] wr W) => calls_dx (HX.out.keep kk))
        rw [FS.out.c] at HCa
        have heq : ((textOf ss).toList == (textOf ss).toList) = true := by simp
        have hsz := HB.out.size
        clear hrd
        rcases (by omega : k = l.length ∨ (k = 30 ∧ 30 < l.length)) with hk | ⟨hk, hk2⟩
        · subst hk
          go_wp2_with fail
          refine HRd.out.mono ?_
          rintro e w5 ⟨v5, rfl, hr5, k5⟩
          have hst := reads_string hr5
          have HK5 := Lib.hid k5
          clear hr5 k5
          go_wp2_with fail
          refine (HCa.out w5 HK5.out).mono ?_
          rintro e w6 ⟨rfl, rfl⟩
          go_wp2_with fail
          refine (awake_any w5).mono ?_
          rintro e w6 ⟨rfl, b6⟩
          have HB6 := Lib.hid b6
          clear b6
          go_wp2
          go_ret
          exact ⟨rfl, HB.out.trans ((HK5.out.below hsz (by simp)).trans (HB6.out.mono (by have := HK5.out.size; omega)))⟩
        · subst hk
          go_wp2_with fail
          refine HRd.out.mono ?_
          rintro e w5 ⟨v5, rfl, hr5, k5⟩
          have hst := reads_string hr5
          have HK5 := Lib.hid k5
          clear hr5 k5
          go_wp2_with fail
          refine (HCa.out w5 HK5.out).mono ?_
          rintro e w6 ⟨rfl, rfl⟩
          go_wp2_with fail
          refine (awake_any w5).mono ?_
          rintro e w6 ⟨rfl, b6⟩
          have HB6 := Lib.hid b6
          clear b6
          go_wp2
          go_ret
          exact ⟨rfl, HB.out.trans ((HK5.out.below hsz (by simp)).trans (HB6.out.mono (by have := HK5.out.size; omega)))⟩
  · simp only [if_true] at hfe
    subst hfe
    go_enter Try.func8, Try.ntmps8
    go_wp2_with fail
    refine (new_dx w 1048576 (by omega)).mono ?_
    rintro e w1 ⟨rfl, h1, b1⟩
    have H1 := Lib.hid h1
    have HB1 := Lib.hid b1
    clear h1 b1
    go_wp2_with fail
    refine (create_dx H1.out (St.new_plain _) (by simp [St.new]) ⟨#[102]⟩ (by decide) (by decide) rfl (by simp [St.new, Maps.size])).mono ?_
    rintro e w2 ⟨rfl, b2, f, hf, h2⟩
    have H2 := Lib.hid h2
    have HB2 := Lib.hid b2
    clear h2 b2
    obtain ⟨vf, N, L, vt, nn, nl, vb, hA⟩ := H2.out.at_
    have HFa := Lib.hid (fail_nat hA.d (K + 1) (by omega) _ (.inl rfl))
    rw [show ((K + 1 : Nat) : Int) = (K : Int) + 1 by omega] at HFa
    clear hA
    go_wp2_with fail
    refine HFa.out.mono ?_
    rintro e w3 ⟨⟨_, rfl⟩, rfl⟩
    have hk3 : Keeps [w.heap.size + 1 + 1] w2 ((w2.setCell ⟨w.heap.size + 1 + 1, 3, none⟩ (.int .i64 ((K : Int) + 1))).setCell ⟨w.heap.size + 1 + 1, 4, none⟩ (.int .i64 15)) := ((Keeps.refl _ w2).setCell _ _ fun _ => by simp).setCell _ _ fun _ => by simp
    have hX3 := H2.out.turnD hk3 1 (-1) ((K : Int) + 1) 15 false ⟨by simp [St.made, St.new], by omega⟩ (fun vf N L vt hd => (hd.fails _).failEs _)
    have hb3 : Below w.heap.size w ((w2.setCell ⟨w.heap.size + 1 + 1, 3, none⟩ (.int .i64 ((K : Int) + 1))).setCell ⟨w.heap.size + 1 + 1, 4, none⟩ (.int .i64 15)) := HB1.out.trans (HB2.out.trans (hk3.below H2.out.base_le.1 (by simp; omega)))
    generalize (w2.setCell ⟨w.heap.size + 1 + 1, 3, none⟩ (.int .i64 ((K : Int) + 1))).setCell ⟨w.heap.size + 1 + 1, 4, none⟩ (.int .i64 15) = w3 at *
    have HX3 := Lib.hid hX3
    have HB3 := Lib.hid hb3
    clear hX3 hb3 hk3 HFa
    go_wp2_with fail
    go_loopw [9, 10] (fun vs vi wr => ∃ (k : Nat) (ss : List UInt8) (S : St), vs = .string (textOf ss) ∧ vi = .int .i64 ((k : Int) + 1) ∧ k ≤ l.length ∧ k ≤ 30 ∧ ss.length ≤ 15 * k ∧ DX w.heap.size wr (w.heap.size + 1 + 1) S ∧ FailS S f ss k (K + 1) 15 ∧ Below w.heap.size w wr) (fun _ vi _ => 31 - (intOf vi).toNat)
    case atStart => exact ⟨0, [], _, rfl, by simp, Nat.zero_le _, Nat.zero_le _, by simp, HX3.out, ⟨⟨rfl, rfl, by simp [St.made]⟩, rfl, by simp, by simp, rfl, rfl, rfl⟩, HB3.out⟩
    case round =>
      obtain ⟨k, ss, S, rfl, rfl, hkl, hk30, hss, hX, hF, hB⟩ := hrel
      have HX := Lib.hid hX
      have FS := Lib.hid hF
      have HB := Lib.hid hB
      clear hX hF hB
      have hsc := FS.out.c
      by_cases hlt : k < l.length ∧ k < 30
      · obtain ⟨hlt1, hlt2⟩ := hlt
        obtain ⟨g, o, rfl, hg, hcell⟩ := came_int HL.out HB.out k hlt1
        obtain ⟨j, hj, hj2⟩ := mask_nat l[k] 4 (by omega)
        simp only [Nat.reducePow, Nat.reduceSub] at hj hj2
        have hj' : bits BinOp.and IntKind.i64 l[k] 15 = (j : Int) := hj
        clear hj
        have HBy := Lib.hid (bytes_any wr (k + 1) j (by omega) (by omega))
        rw [show ((k + 1 : Nat) : Int) = (k : Int) + 1 by omega] at HBy
        go_wp2_with fail
        refine HBy.out.mono ?_
        rintro e w5 ⟨rfl, k5⟩
        have hpl := bytesOf_length (k + 1) j
        generalize bytesOf (k + 1) j = p0 at *
        have hX5 := HX.out.keep k5
        have hXc := hX5.keep (conv_keeps w5 (textOf p0))
        have hDl5 := hX5.base_le.2.2
        have hadd := fun W => add_text W ss p0 (by omega)
        have hadd2 := fun W => add_text2 W ss p0 (by omega)
        have hB5 : Below w.heap.size w (convW w5 (textOf p0)) := HB.out.trans ((k5.trans (conv_keeps w5 (textOf p0))).below HB.out.size (by simp))
        have HB5 := Lib.hid hB5
        clear HBy hX5 hB5 k5
        rcases Nat.lt_trichotomy k K with hkK | hkK | hkK
        · have hfl : S.fl = ((K + 1 - k : Nat) : Int) := FS.out.fl
          have HAp := Lib.hid (append_oneH (S1 := S.nearer) hXc FS.out.o.nearer FS.out.dead FS.out.q (by decide) (by decide) _ p0 (conv_text w5 p0) (conv_off w5 (textOf p0) hDl5) (by omega) _ (handed_later hXc FS.out.dead FS.out.st (by omega) (by omega) _))
          have hne : ((k : Int) + 1 == (K : Int) + 1) = false := beq_eq_false_iff_ne.2 (by omega)
          clear hXc hfl
          go_wp2_with fail
          refine HAp.out.mono ?_
          rintro e w6 ⟨v, rfl, rfl, b6, h6⟩
          have HB6 := Lib.hid b6
          have H6 := Lib.hid h6
          clear b6 h6 HAp
          go_wp2_with fail
          go_roundw
          case rel => exact ⟨k + 1, ss ++ p0, _, by first | rfl | rw [text_append], by go_num, by omega, by omega, by simp; omega, H6.out, ⟨FS.out.o.nearer.put' _ _, by show S.c + 1 = _; omega, by show S.fl - 1 = _; have := FS.out.fl; omega, FS.out.st, FS.out.dead, FS.out.fe, FS.out.q⟩, HB5.out.trans HB6.out⟩
          case measure => simp [intOf]; omega
        · subst hkK
          have hfl : S.fl = 1 := by have := FS.out.fl; omega
          have HAp := Lib.hid (append_oneH (S1 := S.nearer) hXc FS.out.o.nearer FS.out.dead FS.out.q (by decide) (by decide) _ p0 (conv_text w5 p0) (conv_off w5 (textOf p0) hDl5) (by omega) _ (handed_now hXc FS.out.dead FS.out.st hfl (by omega) _))
          rw [FS.out.fe] at HAp
          clear hXc hfl
          go_wp2_with fail
          refine HAp.out.mono ?_
          rintro e w6 ⟨v, rfl, rfl, b6, h6⟩
          have HB6 := Lib.hid b6
          have H6 := Lib.hid h6
          clear b6 h6 HAp
          go_wp2_with fail
          go_roundw
          case rel => exact ⟨k + 1, ss, _, rfl, by go_num, by omega, by omega, by omega, H6.out, ⟨FS.out.o.nearer, by show S.c + 1 = _; omega, by show S.fl - 1 = _; have := FS.out.fl; omega, FS.out.st, FS.out.dead, FS.out.fe, FS.out.q⟩, HB5.out.trans HB6.out⟩
          case measure => simp [intOf]; omega
        · have hfl : S.fl = 0 := by have := FS.out.fl; omega
          have HAp := Lib.hid (append_oneH (S1 := S.count) hXc FS.out.o.count FS.out.dead FS.out.q (by decide) (by decide) _ p0 (conv_text w5 p0) (conv_off w5 (textOf p0) hDl5) (by omega) _ (handed_plain hXc ⟨FS.out.dead, hfl, FS.out.st⟩ (by omega) _))
          have hne : ((k : Int) + 1 == (K : Int) + 1) = false := beq_eq_false_iff_ne.2 (by omega)
          clear hXc hfl
          go_wp2_with fail
          refine HAp.out.mono ?_
          rintro e w6 ⟨v, rfl, rfl, b6, h6⟩
          have HB6 := Lib.hid b6
          have H6 := Lib.hid h6
          clear b6 h6 HAp
          go_wp2_with fail
          go_roundw
          case rel => exact ⟨k + 1, ss ++ p0, _, by first | rfl | rw [text_append], by go_num, by omega, by omega, by simp; omega, H6.out, ⟨FS.out.o.count.put' _ _, by show S.c + 1 = _; omega, by show S.fl = _; have := FS.out.fl; omega, FS.out.st, FS.out.dead, FS.out.fe, FS.out.q⟩, HB5.out.trans HB6.out⟩
          case measure => simp [intOf]; omega
      · have hrd := read_dx HX.out FS.out.dead ⟨#[102]⟩ (by decide) (by decide) f FS.out.o.file 0 10000
        rw [FS.out.o.con, List.drop_zero, List.take_of_length_le (by show ss.length ≤ 10000; omega)] at hrd
        have HRd := Lib.hid hrd
        have HCa := Lib.hid (fun (W : World) (kk : Keeps [] wr W) => calls_dx (HX.out.keep kk))
        rw [FS.out.c] at HCa
        have heq : ((textOf ss).toList == (textOf ss).toList) = true := by simp
        have hsz := HB.out.size
        clear hrd
        rcases (by omega : k = l.length ∨ (k = 30 ∧ 30 < l.length)) with hk | ⟨hk, hk2⟩
        · subst hk
          go_wp2_with fail
          refine HRd.out.mono ?_
          rintro e w5 ⟨v5, rfl, hr5, k5⟩
          have hst := reads_string hr5
          have HK5 := Lib.hid k5
          clear hr5 k5
          go_wp2_with fail
          refine (HCa.out w5 HK5.out).mono ?_
          rintro e w6 ⟨rfl, rfl⟩
          go_wp2_with fail
          refine (awake_any w5).mono ?_
          rintro e w6 ⟨rfl, b6⟩
          have HB6 := Lib.hid b6
          clear b6
          go_wp2
          go_ret
          exact ⟨rfl, HB.out.trans ((HK5.out.below hsz (by simp)).trans (HB6.out.mono (by have := HK5.out.size; omega)))⟩
        · subst hk
          go_wp2_with fail
          refine HRd.out.mono ?_
          rintro e w5 ⟨v5, rfl, hr5, k5⟩
          have hst := reads_string hr5
          have HK5 := Lib.hid k5
          clear hr5 k5
          go_wp2_with fail
          refine (HCa.out w5 HK5.out).mono ?_
          rintro e w6 ⟨rfl, rfl⟩
          go_wp2_with fail
          refine (awake_any w5).mono ?_
          rintro e w6 ⟨rfl, b6⟩
          have HB6 := Lib.hid b6
          clear b6
          go_wp2
          go_ret
          exact ⟨rfl, HB.out.trans ((HK5.out.below hsz (by simp)).trans (HB6.out.mono (by have := HK5.out.size; omega)))⟩
theorem fails_walk (n0 : Int) (full : Bool) (p : Option Addr) (cap : Nat) (l : List Int) (w : World) (_h0 : (Lit.int .i64 n0).wf = true) (_hm : l.length ≤ 9223372036854775807) (hl : Came w p l.length cap (intsV l)) : Calls Try.prog 8 #[.int .i64 n0, .bool full, .slice p l.length cap] w (IsTrue w) :=
  fails_walk0 n0 full p cap l w hl _ rfl
end Go.Proofs.Ytebkgkaihjoamaa
