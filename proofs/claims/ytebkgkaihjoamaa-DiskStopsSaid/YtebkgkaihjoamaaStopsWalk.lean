/- The walk of DiskStops: it answers true. -/
import Derived.Test.YtebkgkaihjoamaaAppS
namespace Go.Proofs.Ytebkgkaihjoamaa
open Go.RowKit Go.Proofs

/-- the disk's state ahead of the k-th round of DiskStops: one file of the bytes ss, whose name lasts; n calls are let -/
structure StopS (S : St) (f : Nat) (ss : List UInt8) (k n : Nat) : Prop where
  o : One S ⟨#[102]⟩ f ss 0
  fm : Firm S ⟨#[102]⟩ f
  c : S.c = 2 + k
  fl : S.fl = 0
  st : S.st = ((n - k : Nat) : Int)
  dead : S.dead = decide (n ≤ k)
  q : S.q = 1048576
theorem StopS.on {S : St} {f k n : Nat} {ss l : List UInt8} (h : StopS S f ss k n) (hk : k < n) : StopS (S.sooner.file f (ss ++ l) 0).dying f (ss ++ l) (k + 1) n := by
  refine ⟨⟨h.o.nm, h.o.fs, by simp [St.dying, St.file]⟩, ⟨h.fm.ls, h.fm.ts⟩, by show S.c + 1 = _; rw [h.c]; omega, h.fl, by show S.st - 1 = _; rw [h.st]; omega, ?_, h.q⟩
  show (S.dead || (S.st - 1 == 0)) = _
  rw [h.dead, h.st, decide_eq_false (by omega), Bool.false_or]
  by_cases e : n = k + 1
  · rw [decide_eq_true (by omega), beq_iff_eq.2 (by omega)]
  · rw [decide_eq_false (by omega), beq_eq_false_iff_ne.2 (by omega)]
theorem StopS.off {S : St} {f k n : Nat} {ss : List UInt8} (h : StopS S f ss k n) (hk : n ≤ k) : StopS S.count f ss (k + 1) n :=
  ⟨h.o.count, ⟨h.fm.ls, h.fm.ts⟩, by show S.c + 1 = _; rw [h.c]; omega, h.fl, by show S.st = _; rw [h.st]; omega, by show S.dead = _; rw [h.dead, decide_eq_true hk, decide_eq_true (by omega)], h.q⟩

set_option maxRecDepth 100000 in
set_option maxHeartbeats 8000000 in
theorem stops_walk (n0 : Int) (p : Option Addr) (cap : Nat) (l : List Int) (w : World) (_h0 : (Lit.int .i64 n0).wf = true) (_hm : l.length ≤ 9223372036854775807) (hl : Came w p l.length cap (intsV l)) : Calls Try.prog 6 #[.int .i64 n0, .slice p l.length cap] w (IsTrue w) := by
  obtain ⟨n, hn, hn2⟩ := mask_nat n0 5 (by omega)
  simp only [Nat.reducePow, Nat.reduceSub] at hn hn2
  have hn' : bits BinOp.and IntKind.i64 n0 31 = (n : Int) := hn
  clear hn
  have hlm := hl.2.1
  have hnil := eql_disk_some
  have hcv := conv_run
  have HL := Lib.hid hl
  clear hl
  go_enter Try.func6, Try.ntmps6
  go_wp2_with fail
  refine (new_dx w 1048576 (by omega)).mono ?_
  rintro e w1 ⟨rfl, h1, b1⟩
  have H1 := Lib.hid h1
  have HB1 := Lib.hid b1
  clear h1 b1
  go_wp2_with fail
  refine (create_dx H1.out (St.new_plain _) (by simp [St.new]) ⟨#[102]⟩ (by decide) (by decide) rfl (by simp [St.new, Maps.size])).mono ?_
  rintro e w2 ⟨rfl, b2, f, hf, h2⟩
  have hP2 : (St.made (St.new 1048576) ⟨#[102]⟩ f).Plain := ⟨rfl, rfl, by simp [St.made, St.new]⟩
  have HSd := Lib.hid (syncdir_dx (S1 := ((St.new 1048576).made ⟨#[102]⟩ f).count) h2 _ (handed_plain h2 hP2 (by simp [St.made, St.new]) _))
  have HB2 := Lib.hid b2
  clear h2 b2
  go_wp2_with fail
  refine HSd.out.mono ?_
  rintro e w3 ⟨v, rfl, b3, rfl, h3⟩
  have HB3 : Hid (Below w.heap.size w w3) := HB1.out.trans (HB2.out.trans b3)
  have H3 := Lib.hid h3
  clear b3 h3 HSd
  obtain ⟨vf, N, L, vt, nn, nl, vb, hA⟩ := H3.out.at_
  have HSt := Lib.hid (stop_nat hA.d n (by omega))
  clear hA
  go_wp2_with fail
  refine HSt.out.mono ?_
  rintro e w4 ⟨⟨_, rfl⟩, rfl⟩
  have hk4 : Keeps [w.heap.size + 1 + 1] w3 ((w3.setCell ⟨w.heap.size + 1 + 1, 2, none⟩ (.int .i64 n)).setCell ⟨w.heap.size + 1 + 1, 5, none⟩ (.bool ((n : Int) == 0))) := ((Keeps.refl _ w3).setCell _ _ fun _ => by simp).setCell _ _ fun _ => by simp
  have hX4 := H3.out.turnD hk4 2 n 0 0 ((n : Int) == 0) ⟨by simp [St.made, St.new, St.count, St.lasting], by omega⟩ (fun vf N L vt hd => (hd.stops _).deads _)
  have hb4 : Below w.heap.size w ((w3.setCell ⟨w.heap.size + 1 + 1, 2, none⟩ (.int .i64 n)).setCell ⟨w.heap.size + 1 + 1, 5, none⟩ (.bool ((n : Int) == 0))) := HB3.out.trans (hk4.below H3.out.base_le.1 (by simp; omega))
  generalize (w3.setCell ⟨w.heap.size + 1 + 1, 2, none⟩ (.int .i64 n)).setCell ⟨w.heap.size + 1 + 1, 5, none⟩ (.bool ((n : Int) == 0)) = w4 at *
  have hS4 : StopS ({ ((St.new 1048576).made ⟨#[102]⟩ f).count.lasting with c := 2, st := n, fl := 0, fe := 0, dead := ((n : Int) == 0) } : St) f [] 0 n := by
    refine ⟨⟨rfl, rfl, by simp [St.made, St.count, St.lasting]⟩, ⟨rfl, rfl⟩, rfl, rfl, by simp, ?_, rfl⟩
    show ((n : Int) == 0) = _
    by_cases e : n = 0
    · subst e; rfl
    · rw [decide_eq_false (by omega), beq_eq_false_iff_ne.2 (by omega)]
  have HX4 := Lib.hid hX4
  have HS4 := Lib.hid hS4
  have HB4 := Lib.hid hb4
  clear hX4 hb4 hk4 hS4 HSt
  go_wp2_with fail
  go_loopw [6, 7] (fun vs vi wr => ∃ (k : Nat) (ss : List UInt8) (S : St), vs = .string (textOf ss) ∧ vi = .int .i64 (k : Int) ∧ k ≤ l.length ∧ k ≤ 40 ∧ ss.length ≤ 15 * k ∧ DX w.heap.size wr (w.heap.size + 1 + 1) S ∧ StopS S f ss k n ∧ Below w.heap.size w wr) (fun _ vi _ => 41 - (intOf vi).toNat)
  case atStart => exact ⟨0, [], _, rfl, by simp, Nat.zero_le _, Nat.zero_le _, by simp, HX4.out, HS4.out, HB4.out⟩
  case round =>
    obtain ⟨k, ss, S, rfl, rfl, hkl, hk40, hss, hX, hF, hB⟩ := hrel
    have HX := Lib.hid hX
    have FS := Lib.hid hF
    have HB := Lib.hid hB
    clear hX hF hB
    have hsc := FS.out.c
    by_cases hlt : k < l.length ∧ k < 40
    · obtain ⟨hlt1, hlt2⟩ := hlt
      obtain ⟨g, o, rfl, hg, hcell⟩ := came_int HL.out HB.out k hlt1
      obtain ⟨j, hj, hj2⟩ := mask_nat l[k] 4 (by omega)
      simp only [Nat.reducePow, Nat.reduceSub] at hj hj2
      have hj' : bits BinOp.and IntKind.i64 l[k] 15 = (j : Int) := hj
      clear hj
      have HBy := Lib.hid (bytes_any wr k j (by omega) (by omega))
      go_wp2_with fail
      refine HBy.out.mono ?_
      rintro e w5 ⟨rfl, k5⟩
      have hpl := bytesOf_length k j
      generalize bytesOf k j = p0 at *
      have hX5 := HX.out.keep k5
      have hXc := hX5.keep (conv_keeps w5 (textOf p0))
      have hDl5 := hX5.base_le.2.2
      have hadd := fun W => add_text W ss p0 (by omega)
      have hadd2 := fun W => add_text2 W ss p0 (by omega)
      have hB5 : Below w.heap.size w (convW w5 (textOf p0)) := HB.out.trans ((k5.trans (conv_keeps w5 (textOf p0))).below HB.out.size (by simp))
      have HB5 := Lib.hid hB5
      clear HBy hX5 hB5 k5
      rcases Nat.lt_or_ge k n with hkn | hkn
      · have hst : S.st = ((n - k : Nat) : Int) := FS.out.st
        have hd0 : S.dead = false := by rw [FS.out.dead]; exact decide_eq_false (by omega)
        have HAp := Lib.hid (append_oneS hXc FS.out.o hd0 FS.out.fl (by omega) (by omega) FS.out.q (by decide) (by decide) _ p0 (conv_text w5 p0) (conv_off w5 (textOf p0) hDl5) (by omega))
        clear hXc hst hd0
        go_wp2_with fail
        refine HAp.out.mono ?_
        rintro e w6 ⟨rfl, b6, h6⟩
        have HB6 := Lib.hid b6
        have H6 := Lib.hid h6
        have F6 := Lib.hid (FS.out.on (l := p0) hkn)
        have HDe := Lib.hid (dead_dx h6)
        rw [F6.out.dead] at HDe
        clear b6 h6 HAp
        rcases Nat.lt_or_ge (k + 1) n with hk1 | hk1
        · rw [decide_eq_false (show ¬ n ≤ k + 1 by omega)] at HDe
          have hge : decide (((k : Int) + 1) ≥ (n : Int)) = false := decide_eq_false (by omega)
          have hgw : IntKind.i64.wrap ((k : Int) + 1) = (k : Int) + 1 := by rw [IntKind.wrap_i64]; omega
          have hge2 : decide (IntKind.i64.wrap ((k : Int) + 1) ≥ (n : Int)) = false := by rw [hgw]; exact hge
          go_wp2_with fail
          refine HDe.out.mono ?_
          rintro e w7 ⟨rfl, rfl⟩
          go_wp2_with fail
          go_roundw
          case rel => exact ⟨k + 1, ss ++ p0, _, by first | rfl | rw [text_append], by go_num, by omega, by omega, by simp; omega, H6.out, F6.out, HB5.out.trans HB6.out⟩
          case measure => simp [intOf]; omega
        · rw [decide_eq_true (show n ≤ k + 1 by omega)] at HDe
          have hge : decide (((k : Int) + 1) ≥ (n : Int)) = true := decide_eq_true (by omega)
          have hgw : IntKind.i64.wrap ((k : Int) + 1) = (k : Int) + 1 := by rw [IntKind.wrap_i64]; omega
          have hge2 : decide (IntKind.i64.wrap ((k : Int) + 1) ≥ (n : Int)) = true := by rw [hgw]; exact hge
          go_wp2_with fail
          refine HDe.out.mono ?_
          rintro e w7 ⟨rfl, rfl⟩
          go_wp2_with fail
          go_roundw
          case rel => exact ⟨k + 1, ss ++ p0, _, by first | rfl | rw [text_append], by go_num, by omega, by omega, by simp; omega, H6.out, F6.out, HB5.out.trans HB6.out⟩
          case measure => simp [intOf]; omega
      · have hd0 : S.dead = true := by rw [FS.out.dead]; exact decide_eq_true (by omega)
        have HAp : Hid (Calls Try.prog 23 #[.pointer (some ⟨w.heap.size + 1 + 1, 0, none⟩), .string ⟨#[102]⟩, convV w5 (textOf p0)] (convW w5 (textOf p0)) fun e w' => e = .returned (.int .i64 50) ∧ Below w.heap.size (convW w5 (textOf p0)) w' ∧ DX w.heap.size w' (w.heap.size + 1 + 1) S.count) := append_dead hXc hd0 (by omega) ⟨#[102]⟩ (by decide) (by decide) _ _ _
        clear hXc hd0
        go_wp2_with fail
        refine HAp.out.mono ?_
        rintro e w6 ⟨rfl, b6, h6⟩
        have HB6 := Lib.hid b6
        have H6 := Lib.hid h6
        have F6 := Lib.hid (FS.out.off hkn)
        have HDe := Lib.hid (dead_dx h6)
        rw [F6.out.dead] at HDe
        clear b6 h6 HAp
        rw [decide_eq_true (show n ≤ k + 1 by omega)] at HDe
        have hge : decide (((k : Int) + 1) ≥ (n : Int)) = true := decide_eq_true (by omega)
        have hgw : IntKind.i64.wrap ((k : Int) + 1) = (k : Int) + 1 := by rw [IntKind.wrap_i64]; omega
        have hge2 : decide (IntKind.i64.wrap ((k : Int) + 1) ≥ (n : Int)) = true := by rw [hgw]; exact hge
        go_wp2_with fail
        refine HDe.out.mono ?_
        rintro e w7 ⟨rfl, rfl⟩
        go_wp2_with fail
        go_roundw
        case rel => exact ⟨k + 1, ss, _, rfl, by go_num, by omega, by omega, by omega, H6.out, F6.out, HB5.out.trans HB6.out⟩
        case measure => simp [intOf]; omega
    · have HCa := Lib.hid (calls_dx HX.out)
      rw [FS.out.c] at HCa
      have HAn : Hid (∀ W : World, Arg W S.fs (.slice none 0 0) (intsV [])) := fun W => .inr ⟨rfl, _, _, rfl⟩
      have HAb : Hid (∀ W : World, Arg W S.fs (.slice none 0 0) (boolsV [])) := fun W => .inr ⟨rfl, _, _, rfl⟩
      have HCr := Lib.hid (crash_dx HX.out (.slice none 0 0) (.slice none 0 0) [] [] (HAn.out _) (HAb.out _) (by intro p' n' c' e; cases e; omega))
      have heq : ((textOf ss).toList == (textOf ss).toList) = true := by simp
      have hsz := HB.out.size
      rcases (by omega : k = l.length ∨ (k = 40 ∧ 40 < l.length)) with hk | ⟨hk, hk2⟩
      all_goals
        subst hk
        go_wp2_with fail
        refine HCa.out.mono ?_
        rintro e w5 ⟨rfl, rfl⟩
        go_wp2_with fail
        refine HCr.out.mono ?_
        rintro e w5 ⟨⟨_, rfl⟩, hcr⟩
        obtain ⟨b5, k5, S5, _, _, hke, h5, o5, fm5, p5, hc5, hq5⟩ := crash_one FS.out.o FS.out.fm hcr
        obtain rfl := hke rfl
        rw [List.take_length] at o5
        have hrd := read_dx h5 p5.dead ⟨#[102]⟩ (by decide) (by decide) f o5.file 0 10000
        rw [o5.con, List.drop_zero, List.take_of_length_le (by show ss.length ≤ 10000; omega)] at hrd
        have HRd := Lib.hid hrd
        have HB5 : Hid (Below w.heap.size w w5) := HB.out.trans b5
        have HDe := Lib.hid (fun (W : World) (kk : Keeps [] w5 W) => dead_dx (h5.keep kk))
        rw [p5.dead] at HDe
        clear hrd h5 b5 hcr hc5 hq5
        go_wp2_with fail
        refine HRd.out.mono ?_
        rintro e w6 ⟨v6, rfl, hr6, k6⟩
        have hst := reads_string hr6
        have HK6 := Lib.hid k6
        have HB6 : Hid (Below w.heap.size w w6) := HB5.out.trans (k6.below HB5.out.size (by simp))
        clear hr6 k6
        go_wp2_with fail
        refine (HDe.out w6 HK6.out).mono ?_
        rintro e w7 ⟨rfl, rfl⟩
        go_wp2_with fail
        refine (awake_any w6).mono ?_
        rintro e w7 ⟨rfl, b7⟩
        have HB7 := Lib.hid b7
        clear b7
        go_wp2
        go_ret
        exact ⟨rfl, HB6.out.trans (HB7.out.mono HB6.out.size)⟩
end Go.Proofs.Ytebkgkaihjoamaa
