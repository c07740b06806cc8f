/- The walk of DiskMoves: it answers true. -/
import Derived.Test.YtebkgkaihjoamaaTwo
namespace Go.Proofs.Ytebkgkaihjoamaa
open Go.RowKit Go.Proofs

/-- the names of DiskMoves -/
abbrev tx : ByteArray := ⟨#[120]⟩
abbrev ty : ByteArray := ⟨#[121]⟩
theorem used_two {S : St} {k1 k2 : Lit} {f1 f2 : Nat} (h : S.nm = .map [(k1, litF f1), (k2, litF f2)]) : S.used = (S.con f1).1.length + (S.con f2).1.length := by
  unfold St.used sumD
  rw [h]
  simp [sumLeft, lenD_litF]
theorem used_one {S : St} {k : Lit} {f : Nat} (h : S.nm = .map [(k, litF f)]) : S.used = (S.con f).1.length := by
  unfold St.used
  rw [h, sumD_one]

set_option maxRecDepth 100000 in
set_option maxHeartbeats 8000000 in
theorem moves_walk (a b : Int) (over : Bool) (w : World) (_h0 : (Lit.int .i64 a).wf = true) (_h1 : (Lit.int .i64 b).wf = true) : Calls Try.prog 10 #[.int .i64 a, .int .i64 b, .bool over] w (IsTrue w) := by
  obtain ⟨A, hA, hA2⟩ := mask_nat a 8 (by omega)
  obtain ⟨B, hB, hB2⟩ := mask_nat b 8 (by omega)
  simp only [Nat.reducePow, Nat.reduceSub] at hA hA2 hB hB2
  have hA' : bits BinOp.and IntKind.i64 a 255 = (A : Int) := hA
  have hB' : bits BinOp.and IntKind.i64 b 255 = (B : Int) := hB
  clear hA hB
  have hnil := eql_disk_some
  have hcv := conv_run
  have kc := fun (w : World) (C : Array Value) (n c : Nat) => Lib.run_convert_bytes_const (P := Try.prog) w 29 5 C n c Try.underlying29 Try.underlying5
  cases over
  · skip
    go_enter Try.func10, Try.ntmps10
    go_wp2_with fail
    refine (new_dx w 1048576 (by omega)).mono ?_
    rintro e w1 ⟨rfl, h1, b1⟩
    have H1 := Lib.hid h1
    have HB1 := Lib.hid b1
    clear h1 b1
    go_wp2_with fail
    refine (bytes_any w1 1 A (by omega) (by omega)).mono ?_
    rintro e w2 ⟨rfl, k2⟩
    have hpl := bytesOf_length 1 A
    generalize bytesOf 1 A = pp at *
    have HK2 := Lib.hid k2
    clear k2
    go_wp2_with fail
    refine (bytes_any w2 7 B (by omega) (by omega)).mono ?_
    rintro e w3 ⟨rfl, k3⟩
    have hql := bytesOf_length 7 B
    generalize bytesOf 7 B = qq at *
    have H3 := Lib.hid (H1.out.keep (HK2.out.trans k3))
    have HB3 : Hid (Below w.heap.size w w3) := HB1.out.trans ((HK2.out.trans k3).below HB1.out.size (by simp))
    clear k3
    have hadd := fun W => add_text W pp qq (by omega)
    have hadd2 := fun W => add_text2 W pp qq (by omega)
    go_wp2_with fail
    refine (create_st H3.out Good.new (by omega) tx (by decide) (by decide) rfl (by simp [Maps.size])).mono ?_
    rintro e w4 ⟨rfl, b4, fx, S4, _, h4, g4, c4, f4, l4, t4, _⟩
    have HB4 : Hid (Below w.heap.size w w4) := HB3.out.trans b4
    have hX4 := h4.keep (conv_keeps w4 (textOf pp))
    have HA5 := Lib.hid (append_st hX4 g4 (by omega) tx (by decide) (by decide) fx rfl [] 0 c4 (by rw [used_one (f := fx) g4.nm, c4]; simp) _ pp (conv_text w4 pp) (conv_off w4 (textOf pp) h4.base_le.2.2) (by simp; omega))
    clear b4 h4 hX4
    go_wp2_with fail
    refine HA5.out.mono ?_
    rintro e w5 ⟨rfl, b5, S5, h5, g5, c5, f5, l5, t5, _⟩
    have HB5 : Hid (Below w.heap.size w w5) := HB4.out.trans (((conv_keeps w4 (textOf pp)).below HB4.out.size (by simp)).trans b5)
    have H5 := Lib.hid h5
    clear b5 h5 HA5
    have cxA : S5.con fx = (pp, 0) := by rw [c5]; rfl
    have gA := g5
    rw [put_one] at gA
    have hfx : fileOf (DataW.map [(skey tx, litF fx)]) tx.data.toList = litF fx := rfl
    have hdel : ((DataW.map [(skey tx, litF fx)]).del (skey tx)).put (skey ty) (litF fx) = .map [(skey ty, litF fx)] := rfl
    go_wp2_with fail
    refine (rename_st H5.out gA (by omega) tx ty (by decide) (by decide) (by decide) (by decide) (by decide) fx hfx (by rw [hdel]; simp [Maps.size])).mono ?_
    rw [hdel]
    rintro e w8 ⟨rfl, b8, S8, h8, g8, c8, f8, l8, t8⟩
    have HB8 : Hid (Below w.heap.size w w8) := HB5.out.trans b8
    have cx8 : S8.con fx = (pp, 0) := by rw [c8, cxA]
    clear b8 cxA gA
    have H8 := Lib.hid h8
    clear h8
    go_wp2_with fail
    refine (append_none H8.out g8 (by omega) tx (by decide) (by decide) rfl none 0 0).mono ?_
    rintro e w9 ⟨rfl, b9, S9, h9, g9, c9, f9, _, _⟩
    have HB9 : Hid (Below w.heap.size w w9) := HB8.out.trans b9
    have cx9 : S9.con fx = (pp, 0) := by rw [c9, cx8]
    have hX9 := h9.keep (conv_keeps w9 (textOf qq))
    have HA10 := Lib.hid (append_st hX9 g9 (by omega) ty (by decide) (by decide) fx rfl pp 0 cx9 (by rw [used_one (f := fx) g9.nm, cx9]; simp; omega) _ qq (conv_text w9 qq) (conv_off w9 (textOf qq) h9.base_le.2.2) (by omega))
    clear b9 h9 hX9
    go_wp2_with fail
    refine HA10.out.mono ?_
    rintro e w10 ⟨rfl, b10, S10, h10, g10, c10, f10, _, _, _⟩
    have HB10 : Hid (Below w.heap.size w w10) := HB9.out.trans (((conv_keeps w9 (textOf qq)).below HB9.out.size (by simp)).trans b10)
    have H10 := Lib.hid h10
    clear b10 h10 HA10
    go_wp2_with fail
    refine (rename_self H10.out g10 (by omega) ty (by decide) (by decide) fx rfl).mono ?_
    rintro e w11 ⟨rfl, b11, S11, h11, g11, c11, f11⟩
    have HB11 : Hid (Below w.heap.size w w11) := HB10.out.trans b11
    have cx11 : S11.con fx = (pp ++ qq, 0) := by rw [c11, c10]
    have hfo : fileOf S11.nm ty.data.toList = litF fx := by rw [g11.nm]; rfl
    have hmx : fileOf S11.nm tx.data.toList = noFile := by rw [g11.nm]; rfl
    have hrd := read_dx h11 g11.p.dead ty (by decide) (by decide) fx hfo 0 1048576
    rw [cx11, List.drop_zero, List.take_of_length_le (by show (pp ++ qq).length ≤ 1048576; simp; omega)] at hrd
    have HRd := Lib.hid hrd
    have hsz := fun (W : World) (k : Keeps [] w11 W) => size_dx (h11.keep k) g11.p.dead ty (by decide) (by decide) fx hfo
    rw [cx11] at hsz
    have HSz := Lib.hid hsz
    have HSm := Lib.hid (fun (W : World) (k : Keeps [] w11 W) => size_dx_miss (h11.keep k) g11.p.dead tx (by decide) (by decide) hmx)
    have hus := fun (W : World) (k : Keeps [] w11 W) => used_dx (h11.keep k) g11.p.dead
    rw [used_one (f := fx) g11.nm, cx11] at hus
    have HUs := Lib.hid hus
    have H11 := Lib.hid h11
    have heq : ((textOf (pp ++ qq)).toList == (textOf (pp ++ qq)).toList) = true := by simp
    have hlen : (pp ++ qq).length = A + B := by simp; omega
    clear b11 h11 hrd hsz hus hfo hmx
    go_wp2_with fail
    refine HRd.out.mono ?_
    rintro e w12 ⟨v12, rfl, hr12, k12⟩
    have hst : ∀ a, (convert 29 9 v12).run Try.prog (w12.drewN a) = .ok (.string (textOf (pp ++ qq))) (w12.drewN a) := fun a => reads_string (((Keeps.refl [] w12).drewN a).reads hr12 (by simp))
    have hst0 := reads_string hr12
    have HK12 := Lib.hid k12
    clear hr12 k12
    go_wp2_with fail
    refine (HSz.out w12 HK12.out).mono ?_
    rintro e w13 ⟨rfl, rfl⟩
    go_wp2_with fail
    refine (HSm.out w12 HK12.out).mono ?_
    rintro e w13 ⟨rfl, rfl⟩
    go_wp2_with fail
    refine (HUs.out w12 HK12.out).mono ?_
    rintro e w13 ⟨rfl, k13⟩
    have HK13 := Lib.hid k13
    clear k13
    go_wp2_with fail
    refine (create_st (H11.out.keep (HK12.out.trans HK13.out)) g11 (by omega) tx (by decide) (by decide) rfl (by simp [Maps.size])).mono ?_
    rintro e w14 ⟨rfl, b14, _⟩
    have HB14 : Hid (Below w.heap.size w w14) := HB11.out.trans (((HK12.out.trans HK13.out).below HB11.out.size (by simp)).trans b14)
    clear b14
    go_wp2_with fail
    refine (awake_any w14).mono ?_
    rintro e w15 ⟨rfl, b15⟩
    have HB15 := Lib.hid b15
    clear b15
    go_wp2
    go_ret
    exact ⟨rfl, HB14.out.trans (HB15.out.mono HB14.out.size)⟩
  · skip
    go_enter Try.func10, Try.ntmps10
    go_wp2_with fail
    refine (new_dx w 1048576 (by omega)).mono ?_
    rintro e w1 ⟨rfl, h1, b1⟩
    have H1 := Lib.hid h1
    have HB1 := Lib.hid b1
    clear h1 b1
    go_wp2_with fail
    refine (bytes_any w1 1 A (by omega) (by omega)).mono ?_
    rintro e w2 ⟨rfl, k2⟩
    have hpl := bytesOf_length 1 A
    generalize bytesOf 1 A = pp at *
    have HK2 := Lib.hid k2
    clear k2
    go_wp2_with fail
    refine (bytes_any w2 7 B (by omega) (by omega)).mono ?_
    rintro e w3 ⟨rfl, k3⟩
    have hql := bytesOf_length 7 B
    generalize bytesOf 7 B = qq at *
    have H3 := Lib.hid (H1.out.keep (HK2.out.trans k3))
    have HB3 : Hid (Below w.heap.size w w3) := HB1.out.trans ((HK2.out.trans k3).below HB1.out.size (by simp))
    clear k3
    have hadd := fun W => add_text W pp qq (by omega)
    have hadd2 := fun W => add_text2 W pp qq (by omega)
    go_wp2_with fail
    refine (create_st H3.out Good.new (by omega) tx (by decide) (by decide) rfl (by simp [Maps.size])).mono ?_
    rintro e w4 ⟨rfl, b4, fx, S4, _, h4, g4, c4, f4, l4, t4, _⟩
    have HB4 : Hid (Below w.heap.size w w4) := HB3.out.trans b4
    have hX4 := h4.keep (conv_keeps w4 (textOf pp))
    have HA5 := Lib.hid (append_st hX4 g4 (by omega) tx (by decide) (by decide) fx rfl [] 0 c4 (by rw [used_one (f := fx) g4.nm, c4]; simp) _ pp (conv_text w4 pp) (conv_off w4 (textOf pp) h4.base_le.2.2) (by simp; omega))
    clear b4 h4 hX4
    go_wp2_with fail
    refine HA5.out.mono ?_
    rintro e w5 ⟨rfl, b5, S5, h5, g5, c5, f5, l5, t5, _⟩
    have HB5 : Hid (Below w.heap.size w w5) := HB4.out.trans (((conv_keeps w4 (textOf pp)).below HB4.out.size (by simp)).trans b5)
    have H5 := Lib.hid h5
    clear b5 h5 HA5
    have cx5 : S5.con fx = (pp, 0) := by rw [c5]; rfl
    rw [put_one] at g5
    go_wp2_with fail
    refine (create_st H5.out g5 (by omega) ty (by decide) (by decide) rfl (by simp [Maps.size])).mono ?_
    rintro e w6 ⟨rfl, b6, fy, S6, hfy, h6, g6, c6, f6, l6, t6, o6⟩
    have hnm6 : (DataW.map [(skey tx, litF fx)]).put (skey ty) (litF fy) = .map [(skey tx, litF fx), (skey ty, litF fy)] := rfl
    rw [hnm6] at g6
    have hfx5 : fx ∈ S5.fs := by rw [f5, f4]; simp
    have cx6 : S6.con fx = (pp, 0) := by rw [o6 fx hfx5, cx5]
    have hne : fx ≠ fy := fun e1 => hfy (e1 ▸ hfx5)
    have HB6 : Hid (Below w.heap.size w w6) := HB5.out.trans b6
    have hX6 : DX w.heap.size (w6.alloc (.cells #[.int .u8 103, .int .u8 111, .int .u8 110, .int .u8 101] 5 (4, 5))) (w.heap.size + 1 + 1) S6 := h6.keep ((Keeps.refl _ w6).alloc _)
    have HA7 := Lib.hid (append_st hX6 g6 (by omega) ty (by decide) (by decide) fy rfl [] 0 c6 (by rw [used_two g6.nm, cx6, c6]; simp; omega) _ [103, 111, 110, 101] (reads_new w6 #[.int .u8 103, .int .u8 111, .int .u8 110, .int .u8 101] 5 (4, 5) 4)
      (by simp [Value.rowBlock]; have := h6.base_le.2.2; omega) (by simp))
    clear b6 h6 hX6
    go_wp2_with fail
    refine HA7.out.mono ?_
    rintro e w7 ⟨rfl, b7, S7, h7, g7, c7, f7, l7, t7, o7⟩
    have HB7 : Hid (Below w.heap.size w w7) := HB6.out.trans ((((Keeps.refl [] w6).alloc _).below HB6.out.size (by simp)).trans b7)
    have cx7 : S7.con fx = (pp, 0) := by rw [o7 fx hne, cx6]
    have H7 := Lib.hid h7
    clear b7 h7 HA7
    have hdel : ((DataW.map [(skey tx, litF fx), (skey ty, litF fy)]).del (skey tx)).put (skey ty) (litF fx) = .map [(skey ty, litF fx)] := rfl
    go_wp2_with fail
    refine (rename_st H7.out g7 (by omega) tx ty (by decide) (by decide) (by decide) (by decide) (by decide) fx rfl (by rw [hdel]; simp [Maps.size])).mono ?_
    rw [hdel]
    rintro e w8 ⟨rfl, b8, S8, h8, g8, c8, f8, l8, t8⟩
    have HB8 : Hid (Below w.heap.size w w8) := HB7.out.trans b8
    have cx8 : S8.con fx = (pp, 0) := by rw [c8, cx7]
    clear b8
    have H8 := Lib.hid h8
    clear h8
    go_wp2_with fail
    refine (append_none H8.out g8 (by omega) tx (by decide) (by decide) rfl none 0 0).mono ?_
    rintro e w9 ⟨rfl, b9, S9, h9, g9, c9, f9, _, _⟩
    have HB9 : Hid (Below w.heap.size w w9) := HB8.out.trans b9
    have cx9 : S9.con fx = (pp, 0) := by rw [c9, cx8]
    have hX9 := h9.keep (conv_keeps w9 (textOf qq))
    have HA10 := Lib.hid (append_st hX9 g9 (by omega) ty (by decide) (by decide) fx rfl pp 0 cx9 (by rw [used_one (f := fx) g9.nm, cx9]; simp; omega) _ qq (conv_text w9 qq) (conv_off w9 (textOf qq) h9.base_le.2.2) (by omega))
    clear b9 h9 hX9
    go_wp2_with fail
    refine HA10.out.mono ?_
    rintro e w10 ⟨rfl, b10, S10, h10, g10, c10, f10, _, _, _⟩
    have HB10 : Hid (Below w.heap.size w w10) := HB9.out.trans (((conv_keeps w9 (textOf qq)).below HB9.out.size (by simp)).trans b10)
    have H10 := Lib.hid h10
    clear b10 h10 HA10
    go_wp2_with fail
    refine (rename_self H10.out g10 (by omega) ty (by decide) (by decide) fx rfl).mono ?_
    rintro e w11 ⟨rfl, b11, S11, h11, g11, c11, f11⟩
    have HB11 : Hid (Below w.heap.size w w11) := HB10.out.trans b11
    have cx11 : S11.con fx = (pp ++ qq, 0) := by rw [c11, c10]
    have hfo : fileOf S11.nm ty.data.toList = litF fx := by rw [g11.nm]; rfl
    have hmx : fileOf S11.nm tx.data.toList = noFile := by rw [g11.nm]; rfl
    have hrd := read_dx h11 g11.p.dead ty (by decide) (by decide) fx hfo 0 1048576
    rw [cx11, List.drop_zero, List.take_of_length_le (by show (pp ++ qq).length ≤ 1048576; simp; omega)] at hrd
    have HRd := Lib.hid hrd
    have hsz := fun (W : World) (k : Keeps [] w11 W) => size_dx (h11.keep k) g11.p.dead ty (by decide) (by decide) fx hfo
    rw [cx11] at hsz
    have HSz := Lib.hid hsz
    have HSm := Lib.hid (fun (W : World) (k : Keeps [] w11 W) => size_dx_miss (h11.keep k) g11.p.dead tx (by decide) (by decide) hmx)
    have hus := fun (W : World) (k : Keeps [] w11 W) => used_dx (h11.keep k) g11.p.dead
    rw [used_one (f := fx) g11.nm, cx11] at hus
    have HUs := Lib.hid hus
    have H11 := Lib.hid h11
    have heq : ((textOf (pp ++ qq)).toList == (textOf (pp ++ qq)).toList) = true := by simp
    have hlen : (pp ++ qq).length = A + B := by simp; omega
    clear b11 h11 hrd hsz hus hfo hmx
    go_wp2_with fail
    refine HRd.out.mono ?_
    rintro e w12 ⟨v12, rfl, hr12, k12⟩
    have hst : ∀ a, (convert 29 9 v12).run Try.prog (w12.drewN a) = .ok (.string (textOf (pp ++ qq))) (w12.drewN a) := fun a => reads_string (((Keeps.refl [] w12).drewN a).reads hr12 (by simp))
    have hst0 := reads_string hr12
    have HK12 := Lib.hid k12
    clear hr12 k12
    go_wp2_with fail
    refine (HSz.out w12 HK12.out).mono ?_
    rintro e w13 ⟨rfl, rfl⟩
    go_wp2_with fail
    refine (HSm.out w12 HK12.out).mono ?_
    rintro e w13 ⟨rfl, rfl⟩
    go_wp2_with fail
    refine (HUs.out w12 HK12.out).mono ?_
    rintro e w13 ⟨rfl, k13⟩
    have HK13 := Lib.hid k13
    clear k13
    go_wp2_with fail
    refine (create_st (H11.out.keep (HK12.out.trans HK13.out)) g11 (by omega) tx (by decide) (by decide) rfl (by simp [Maps.size])).mono ?_
    rintro e w14 ⟨rfl, b14, _⟩
    have HB14 : Hid (Below w.heap.size w w14) := HB11.out.trans (((HK12.out.trans HK13.out).below HB11.out.size (by simp)).trans b14)
    clear b14
    go_wp2_with fail
    refine (awake_any w14).mono ?_
    rintro e w15 ⟨rfl, b15⟩
    have HB15 := Lib.hid b15
    clear b15
    go_wp2
    go_ret
    exact ⟨rfl, HB14.out.trans (HB15.out.mono HB14.out.size)⟩
end Go.Proofs.Ytebkgkaihjoamaa
