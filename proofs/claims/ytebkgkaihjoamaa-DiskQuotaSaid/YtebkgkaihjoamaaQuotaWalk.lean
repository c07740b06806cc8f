/- The walk of DiskQuota: it answers true. -/
import Derived.Test.YtebkgkaihjoamaaQuota
import Derived.Test.YtebkgkaihjoamaaOpens
import Derived.Deep.RegionHeld3
namespace Go.Proofs.Ytebkgkaihjoamaa
open Go.RowKit Go.Proofs

theorem QS.more {S : St} {s s' : ByteArray} {f f' c c' q : Nat} {b b' : List UInt8} (h : QS S s f b s' f' b' c q) (hc : c ≤ c') : QS S s f b s' f' b' c' q := { h with c := Nat.le_trans h.c hc }
theorem heap_alloc_new' (w : World) (a : Nat) (o : Obj) : ((w.drewN a).alloc o).heap[w.heap.size]? = some o := heap_alloc_new (w.drewN a) o
theorem DX.keepU {base D d : Nat} {w w' : World} {S : St} {cs : Array Value} {t : TypeId} {fr : Nat × Nat} (h : DX base w D S) (k : Keeps [d] w w') (hd : w.heap[d]? = some (.cells cs t fr)) (ht : t ∉ [5, 60, 62, 64, 66]) : DX base w' D S := by
  obtain ⟨vf, N, L, vt, nn, nl, vb, h1⟩ := h.at_
  have hX : ∀ j cs t fr, w.heap[j]? = some (.cells cs t fr) → t ∈ [5, 60, 62, 64, 66] → j ∉ [d] := fun j cs t fr hj ht2 hmem => by
    obtain rfl := List.mem_singleton.1 hmem
    rw [hd] at hj
    cases hj
    exact ht ht2
  have hXr : ∀ {e : TypeId} {size n : Nat} {v : Value} {xs : List Value}, w.ownsRow base e size v n xs → e ∈ [5, 60, 62, 64, 66] → ∀ j, v.ownBlock = some j → j ∉ [d] := fun hr he j hj => by
    obtain ⟨cs, hcc⟩ := own_cells hr hj
    exact hX j cs _ _ hcc he
  have hXm : ∀ {Nx n : Nat} {Dx : DataW Unit}, NamesAt w Nx n Dx → Nx ∉ [d] := fun hn hmem => by
    obtain rfl := List.mem_singleton.1 hmem
    obtain ⟨es, cl, hb, _⟩ := hn
    rw [hd] at hb
    cases hb
  exact { h with at_ := ⟨vf, N, L, vt, nn, nl, vb, k.disk h1.d (hX D _ _ _ h1.d (by simp)), k.row h1.rf (hXr h1.rf (by simp)), k.row h1.rt (hXr h1.rt (by simp)), k.names h1.n (hXm h1.n), k.names h1.l (hXm h1.l), h1.ne, h1.bD, h1.bN, h1.bL, Nat.le_trans h1.bw k.size,
    fun f hf => ⟨(h1.f f hf).1, (k.block f (Array.getElem?_eq_some_iff.1 (h1.f f hf).2.1).1 (hX f _ _ _ (h1.f f hf).2.1 (by simp))).trans (h1.f f hf).2.1, k.row (h1.f f hf).2.2 (hXr (h1.f f hf).2.2 (by simp))⟩, h1.nd, h1.ap⟩ }

set_option maxRecDepth 100000 in
set_option maxHeartbeats 8000000 in
theorem quota_walk (q0 : Int) (p : Option Addr) (cap : Nat) (l : List Int) (w : World) (_h0 : (Lit.int .i64 q0).wf = true) (_hm : l.length ≤ 9223372036854775807) (hl : Came w p l.length cap (intsV l)) : Calls Try.prog 9 #[.int .i64 q0, .slice p l.length cap] w (IsTrue w) := by
  obtain ⟨q, hq, hq2⟩ := mask_nat q0 9 (by omega)
  simp only [Nat.reducePow, Nat.reduceSub] at hq hq2
  have hq' : bits BinOp.and IntKind.i64 q0 511 = (q : Int) := hq
  clear hq
  have hlm := hl.2.1
  have hnil := eql_disk_some
  have hcv := conv_run
  have HL := Lib.hid hl
  clear hl
  go_enter Try.func9, Try.ntmps9
  go_wp2_with fail
  refine (new_dx w q (by omega)).mono ?_
  rintro e w1 ⟨rfl, h1, b1⟩
  have H1 := Lib.hid h1
  have HB1 := Lib.hid b1
  clear h1 b1
  go_wp2_with fail
  refine (create_dx H1.out (St.new_plain _) (by simp [St.new]) ta (by decide) (by decide) rfl (by simp [St.new, Maps.size])).mono ?_
  rintro e w2 ⟨rfl, b2, fa, hfa, h2⟩
  have H2 := Lib.hid h2
  have HB2 : Hid (Below w.heap.size w w2) := HB1.out.trans b2
  clear h2 b2
  go_wp2_with fail
  refine (create_dx H2.out ⟨rfl, rfl, by simp [St.made, St.new]⟩ (by simp [St.made, St.new]) tb (by decide) (by decide) rfl (by show Maps.size (DataW.map [(skey ta, litF fa)]) < 64; simp [Maps.size])).mono ?_
  rintro e w3 ⟨rfl, b3, fb, hfb, h3⟩
  have hne : fa ≠ fb := fun e => hfb (by rw [← e]; simp [St.made, St.new])
  have HQ3 : Hid (QS (((St.new (q : Int)).made ta fa).made tb fb) ta fa [] tb fb [] 2 q) := ⟨by first | exact .inl rfl | exact .inr rfl, by simp [St.made, hne], by simp [St.made], hne, by simp [St.made, St.new], ⟨rfl, rfl, by simp [St.made, St.new]⟩, rfl, by simp⟩
  have H3 := Lib.hid h3
  have HB3 : Hid (Below w.heap.size w w3) := HB2.out.trans b3
  clear h3 b3
  generalize ((St.new (q : Int)).made ta fa).made tb fb = S3 at *
  have H4 := Lib.hid (H3.out.keep ((Keeps.refl [] w3).alloc (.cells #[.int .i64 0, .int .i64 0] 52)))
  have HB4 : Hid (Below w.heap.size w (w3.alloc (.cells #[.int .i64 0, .int .i64 0] 52))) := HB3.out.trans (((Keeps.refl [] w3).alloc _).below HB3.out.size (by simp))
  have HU4 : Hid ((w3.alloc (.cells #[.int .i64 0, .int .i64 0] 52)).heap[w3.heap.size]? = some (.cells #[.int .i64 0, .int .i64 0] 52 (0, 0))) := heap_alloc_new w3 _
  have hwU : w.heap.size ≤ w3.heap.size := HB3.out.size
  clear H3 HB3 H2 HB2 H1 HB1
  go_wp2_with fail
  generalize w3.alloc (.cells #[.int .i64 0, .int .i64 0] 52) = w4 at *
  generalize w3.heap.size = U at *
  go_loopw [7] (fun vi wr => ∃ (k fa fb : Nat) (ba bb : List UInt8) (S : St), vi = .int .i64 (k : Int) ∧ k ≤ l.length ∧ k ≤ 40 ∧ DX w.heap.size wr (w.heap.size + 1 + 1) S ∧ QS S ta fa ba tb fb bb (2 + 2 * k) q ∧ wr.heap[U]? = some (.cells #[.int .i64 ba.length, .int .i64 bb.length] 52 (0, 0)) ∧ Below w.heap.size w wr) (fun vi _ => 40 - (intOf vi).toNat)
  case atStart => exact ⟨0, fa, fb, [], [], S3, rfl, Nat.zero_le _, Nat.zero_le _, H4.out, HQ3.out, HU4.out, HB4.out⟩
  case round =>
    clear HQ3 H4 HB4 HU4
    obtain ⟨k, fa, fb, ba, bb, S, rfl, hkl, hk40, hX, hQ, hU, hB⟩ := hrel
    have HX := Lib.hid hX
    have HQ := Lib.hid hQ
    have HB := Lib.hid hB
    have HU := Lib.hid hU
    clear hX hQ hB hU
    by_cases hlt : k < l.length ∧ k < 40
    · obtain ⟨hlt1, hlt2⟩ := hlt
      obtain ⟨g, o, rfl, hg, hcell⟩ := came_int HL.out HB.out k hlt1
      obtain ⟨K, hK, hK2⟩ := mask_nat l[k] 1 (by omega)
      simp only [Nat.reducePow, Nat.reduceSub] at hK hK2
      have hK' : bits BinOp.and IntKind.i64 l[k] 1 = (K : Int) := hK
      clear hK
      obtain ⟨N, hN, hN2⟩ := mask_nat (l[k] / 2) 6 (by omega)
      simp only [Nat.reducePow, Nat.reduceSub] at hN hN2
      have hN' : bits BinOp.and IntKind.i64 (l[k] / 2) 63 = (N : Int) := hN
      clear hN
      obtain ⟨T, hT, hT2⟩ := mask_nat (l[k] / 256) 3 (by omega)
      simp only [Nat.reducePow, Nat.reduceSub] at hT hT2
      have hT' : bits BinOp.and IntKind.i64 (l[k] / 256) 7 = (T : Int) := hT
      clear hT
      have hcelld : ∀ a, (wr.drewN a).cell? ⟨g, o + k, none⟩ = some (.int .i64 l[k]) := fun a => hcell
      have hcelle : ∀ a, ((wr.drewN a).alloc (.cells #[.string ta, .string tb] 9)).cell? ⟨g, o + k, none⟩ = some (.int .i64 l[k]) := fun a => ((((Keeps.refl [] wr).drewN a).alloc _).below HB.out.size (by simp)).cell (p := ⟨g, o + k, none⟩) hg |>.trans hcell
      have hn0 : ∀ a, ((wr.drewN a).alloc (.cells #[.string ta, .string tb] 9)).cell? ⟨wr.heap.size, 0, none⟩ = some (.string ta) := fun a => by have h := heap_alloc_new' wr a (.cells #[.string ta, .string tb] 9); simp only [World.cell?, h]; rfl
      have hn1 : ∀ a, ((wr.drewN a).alloc (.cells #[.string ta, .string tb] 9)).cell? ⟨wr.heap.size, 1, none⟩ = some (.string tb) := fun a => by have h := heap_alloc_new' wr a (.cells #[.string ta, .string tb] 9); simp only [World.cell?, h]; rfl
      have hKw : ∀ a, Keeps [] wr ((wr.drewN a).alloc (.cells #[.string ta, .string tb] 9)) := fun a => ((Keeps.refl [] wr).drewN a).alloc _
      have HW : Hid (∀ a, DX w.heap.size ((wr.drewN a).alloc (.cells #[.string ta, .string tb] 9)) (w.heap.size + 1 + 1) S ∧ Below w.heap.size w ((wr.drewN a).alloc (.cells #[.string ta, .string tb] 9)) ∧ ((wr.drewN a).alloc (.cells #[.string ta, .string tb] 9)).heap[U]? = some (.cells #[.int .i64 ba.length, .int .i64 bb.length] 52 (0, 0))) :=
        fun a => ⟨HX.out.keep (hKw a), HB.out.trans ((hKw a).below HB.out.size (by simp)), ((hKw a).block U (Array.getElem?_eq_some_iff.1 HU.out).1 (by simp)).trans HU.out⟩
      clear hKw
      rcases Nat.eq_zero_or_pos T with hT0 | hT0
      · subst hT0
        rcases (by omega : K = 0 ∨ K = 1) with hK0 | hK0
        · subst hK0
          go_wp2_with (go_quiet (fail))
          refine (remove_q (HW.out _).1 HQ.out two_ab (by omega) (by decide) (by decide)).mono ?_
          rintro e w5 ⟨rfl, ⟨b5, t5⟩, S5, h5, g5⟩
          have HB5 : Hid (Below w.heap.size w w5) := (HW.out _).2.1.trans b5
          have HU5 : Hid (w5.heap[U]? = some (.cells #[.int .i64 ba.length, .int .i64 bb.length] 52 (0, 0))) := t5 U _ _ _ (HW.out _).2.2 (by simp)
          have H5 := Lib.hid h5
          have G5 := Lib.hid g5
          clear b5 t5 h5 g5 HW HX HQ HB HU
          go_wp2_with fail
          refine (create_q H5.out G5.out two_ab (by omega) (by decide) (by decide)).mono ?_
          rintro e w6 ⟨rfl, ⟨b6, t6⟩, fnew, S6, h6, g6⟩
          have HB6 : Hid (Below w.heap.size w w6) := HB5.out.trans b6
          have HU6 : Hid (w6.heap[U]? = some (.cells #[.int .i64 ba.length, .int .i64 bb.length] 52 (0, 0))) := t6 U _ _ _ HU5.out (by simp)
          have H6 := Lib.hid h6
          have G6 := Lib.hid g6
          clear b6 t6 h6 g6
          have c6 : w6.cell? ⟨U, 0, none⟩ = some (.int .i64 ba.length) := by simp only [World.cell?, HU6.out]; rfl
          have f6 : w6.frozen? ⟨U, 0, none⟩ = false := by simp [World.frozen?, HU6.out]
          have HU7 : Hid ((w6.setCell ⟨U, 0, none⟩ (.int .i64 0)).heap[U]? = some (.cells #[.int .i64 0, .int .i64 bb.length] 52 (0, 0))) := cells_set HU6.out 0 _
          have K7 : Hid (Keeps [U] w6 (w6.setCell ⟨U, 0, none⟩ (.int .i64 0))) := (Keeps.refl _ _).setCell _ _ fun _ => by simp
          have H7 := Lib.hid (H6.out.keepU K7.out HU6.out (by simp))
          have HB7 : Hid (Below w.heap.size w (w6.setCell ⟨U, 0, none⟩ (.int .i64 0))) := HB6.out.trans (K7.out.below HB6.out.size (by simpa using hwU))
          go_wp2_with fail
          go_roundw
          case rel => exact ⟨k + 1, fnew, fb, [], bb, S6, by go_num, by omega, by omega, H7.out, G6.out.more (by omega), HU7.out, HB7.out⟩
          case measure => simp [intOf]; omega
        · subst hK0
          go_wp2_with (go_quiet (fail))
          refine (remove_q (HW.out _).1 HQ.out.swap two_ba (by omega) (by decide) (by decide)).mono ?_
          rintro e w5 ⟨rfl, ⟨b5, t5⟩, S5, h5, g5⟩
          have HB5 : Hid (Below w.heap.size w w5) := (HW.out _).2.1.trans b5
          have HU5 : Hid (w5.heap[U]? = some (.cells #[.int .i64 ba.length, .int .i64 bb.length] 52 (0, 0))) := t5 U _ _ _ (HW.out _).2.2 (by simp)
          have H5 := Lib.hid h5
          have G5 := Lib.hid g5
          clear b5 t5 h5 g5 HW HX HQ HB HU
          go_wp2_with fail
          refine (create_q H5.out G5.out two_ba (by omega) (by decide) (by decide)).mono ?_
          rintro e w6 ⟨rfl, ⟨b6, t6⟩, fnew, S6, h6, g6⟩
          have HB6 : Hid (Below w.heap.size w w6) := HB5.out.trans b6
          have HU6 : Hid (w6.heap[U]? = some (.cells #[.int .i64 ba.length, .int .i64 bb.length] 52 (0, 0))) := t6 U _ _ _ HU5.out (by simp)
          have H6 := Lib.hid h6
          have G6 := Lib.hid g6
          clear b6 t6 h6 g6
          have c6 : w6.cell? ⟨U, 1, none⟩ = some (.int .i64 bb.length) := by simp only [World.cell?, HU6.out]; rfl
          have f6 : w6.frozen? ⟨U, 1, none⟩ = false := by simp [World.frozen?, HU6.out]
          have HU7 : Hid ((w6.setCell ⟨U, 1, none⟩ (.int .i64 0)).heap[U]? = some (.cells #[.int .i64 ba.length, .int .i64 0] 52 (0, 0))) := cells_set HU6.out 1 _
          have K7 : Hid (Keeps [U] w6 (w6.setCell ⟨U, 1, none⟩ (.int .i64 0))) := (Keeps.refl _ _).setCell _ _ fun _ => by simp
          have H7 := Lib.hid (H6.out.keepU K7.out HU6.out (by simp))
          have HB7 : Hid (Below w.heap.size w (w6.setCell ⟨U, 1, none⟩ (.int .i64 0))) := HB6.out.trans (K7.out.below HB6.out.size (by simpa using hwU))
          go_wp2_with fail
          go_roundw
          case rel => exact ⟨k + 1, fa, fnew, ba, [], S6, by go_num, by omega, by omega, H7.out, (G6.out.more (by omega)).swap, HU7.out, HB7.out⟩
          case measure => simp [intOf]; omega
      · have hTf : ((T : Int) == 0) = false := beq_eq_false_iff_ne.2 (by omega)
        rcases (by omega : K = 0 ∨ K = 1) with hK0 | hK0
        · subst hK0
          go_wp2_with (go_quiet (fail))
          refine (bytes_any _ k N (by omega) (by omega)).mono ?_
          rintro e w5 ⟨rfl, k5⟩
          have hpl := bytesOf_length k N
          generalize bytesOf k N = p0 at *
          have h5 := (HW.out _).1.keep k5
          have hDl5 := h5.base_le.2.2
          have HU5 : Hid ((convW w5 (textOf p0)).heap[U]? = some (.cells #[.int .i64 ba.length, .int .i64 bb.length] 52 (0, 0))) := ((k5.trans (conv_keeps w5 (textOf p0))).block U (Array.getElem?_eq_some_iff.1 (HW.out _).2.2).1 (by simp)).trans (HW.out _).2.2
          have HB5 : Hid (Below w.heap.size w (convW w5 (textOf p0))) := (HW.out _).2.1.trans ((k5.trans (conv_keeps w5 (textOf p0))).below (HW.out _).2.1.size (by simp))
          have HAp := Lib.hid (append_q (h5.keep (conv_keeps w5 (textOf p0))) HQ.out two_ab (by omega) hq2 (by decide) (by decide) _ p0 (conv_text w5 p0) (conv_off w5 (textOf p0) hDl5) (by omega))
          clear h5 k5 HW HX HB HU
          go_wp2_with fail
          refine HAp.out.mono ?_
          rintro e w6 ⟨⟨b6, t6⟩, hor⟩
          have HB6 : Hid (Below w.heap.size w w6) := HB5.out.trans b6
          have HU6 : Hid (w6.heap[U]? = some (.cells #[.int .i64 ba.length, .int .i64 bb.length] 52 (0, 0))) := t6 U _ _ _ HU5.out (by simp)
          clear b6 t6 HAp HB5 HU5
          have c06 : w6.cell? ⟨U, 0, none⟩ = some (.int .i64 ba.length) := by simp only [World.cell?, HU6.out]; rfl
          have c16 : w6.cell? ⟨U, 1, none⟩ = some (.int .i64 bb.length) := by simp only [World.cell?, HU6.out]; rfl
          have f6 : w6.frozen? ⟨U, 0, none⟩ = false := by simp [World.frozen?, HU6.out]
          have hqu := HQ.out.u
          rw [hpl] at hor
          rcases hor with ⟨hgt, rfl, S6, h6, g6⟩ | ⟨hgt, rfl, S6, h6, g6⟩
          · have hgd : decide ((ba.length : Int) + (bb.length : Int) + (N : Int) > (q : Int)) = true := decide_eq_true (by omega)
            have H6 := Lib.hid h6
            have G6 := Lib.hid g6
            clear h6 g6 HQ
            have HUs : Hid (∀ W, Keeps [] w6 W → Calls Try.prog 30 #[.pointer (some ⟨w.heap.size + 1 + 1, 0, none⟩)] W fun e w' => e = .returned (.int .i64 (ba.length + bb.length : Nat)) ∧ W.heap[U]? = some (.cells #[.int .i64 ba.length, .int .i64 bb.length] 52 (0, 0)) ∧ Keeps [] W w') := fun W kW => by
              have hus := used_dx (H6.out.keep kW) G6.out.p.dead
              rw [G6.out.used] at hus
              refine hus.mono fun e w' hr => ⟨?_, (kW.block U (Array.getElem?_eq_some_iff.1 HU6.out).1 (by simp)).trans HU6.out, hr.2⟩
              exact hr.1
            go_upto_region 20 with fail
            go_cut [109] from 30 to 108 (fun u wx => u = .bool false ∧ Keeps [] w6 wx)
            case first =>
              have hKr := (Keeps.refl [] w6).drew
              have c0w6 : w6.cell? ⟨U, 0, none⟩ = some (.int .i64 ba.length) := by simp only [World.cell?, HU6.out]; rfl
              have c1w6 : w6.cell? ⟨U, 1, none⟩ = some (.int .i64 bb.length) := by simp only [World.cell?, HU6.out]; rfl
              have hwr : IntKind.i64.wrap ((ba.length : Int) + (bb.length : Int)) = (ba.length : Int) + (bb.length : Int) := by rw [IntKind.wrap_i64]; omega
              go_region_held3 (fun w' => w'.cell? ⟨U, 0, none⟩ = some (.int .i64 ba.length) ∧ w'.cell? ⟨U, 1, none⟩ = some (.int .i64 bb.length) ∧ Keeps [] w6 w') (first | exact ⟨c0w6, c1w6, hKr⟩ | exact ⟨c09, c19, HKK⟩ | go_keep)
                (first | (go_at_call 30; refine (HUs.out _ (by assumption)).mono ?_; (rintro e w9 ⟨rfl, hu9, kk⟩); (have HKK := (show Keeps [] w6 _ by assumption).trans kk); (have hu99 := (kk.block U (Array.getElem?_eq_some_iff.1 hu9).1 (by simp)).trans hu9); (have c09 : w9.cell? ⟨U, 0, none⟩ = some (.int .i64 ba.length) := (by simp only [World.cell?, hu99]; rfl)); (have c19 : w9.cell? ⟨U, 1, none⟩ = some (.int .i64 bb.length) := (by simp only [World.cell?, hu99]; rfl))))
              all_goals (go_wp2_with fail; go_meet; refine ⟨?_, HKK⟩; first | rfl | (refine congrArg Value.bool (bne_eq_false_iff_eq.2 ?_); rw [IntKind.wrap_i64]; omega))
            case rest =>
              obtain ⟨rfl, kc⟩ := hcut
              have HU9 : Hid (wc.heap[U]? = _) := (kc.block U (Array.getElem?_eq_some_iff.1 HU6.out).1 (by simp)).trans HU6.out
              have H9 := Lib.hid (H6.out.keep kc)
              have HB9 : Hid (Below w.heap.size w wc) := HB6.out.trans (kc.below HB6.out.size (by simp))
              clear kc
              go_wp2_with fail
              go_roundw
              case rel => exact ⟨k + 1, fa, fb, ba, bb, _, by go_num, by omega, by omega, H9.out, G6.out.more (by omega), HU9.out, HB9.out⟩
              case measure => simp [intOf]; omega
          · have hgd : decide ((ba.length : Int) + (bb.length : Int) + (N : Int) > (q : Int)) = false := decide_eq_false (by omega)
            have HU7 : Hid ((w6.setCell ⟨U, 0, none⟩ (.int .i64 ((ba.length : Int) + (N : Int)))).heap[U]? = some (.cells #[.int .i64 ((ba.length : Int) + (N : Int)), .int .i64 bb.length] 52 (0, 0))) := cells_set HU6.out 0 _
            have K7 : Hid (Keeps [U] w6 (w6.setCell ⟨U, 0, none⟩ (.int .i64 ((ba.length : Int) + (N : Int))))) := (Keeps.refl _ _).setCell _ _ fun _ => by simp
            have H7 := Lib.hid (h6.keepU K7.out HU6.out (by simp))
            have HB7 : Hid (Below w.heap.size w (w6.setCell ⟨U, 0, none⟩ (.int .i64 ((ba.length : Int) + (N : Int))))) := HB6.out.trans (K7.out.below HB6.out.size (by simpa using hwU))
            have G6 := Lib.hid g6
            have hgl := g6.u
            simp only [List.length_append, hpl] at hgl
            clear h6 g6 HQ
            go_upto_region 20 with fail
            generalize w6.setCell ⟨U, 0, none⟩ (.int .i64 ((ba.length : Int) + (N : Int))) = w7 at *
            have HUs : Hid (∀ W, Keeps [] w7 W → Calls Try.prog 30 #[.pointer (some ⟨w.heap.size + 1 + 1, 0, none⟩)] W fun e w' => e = .returned (.int .i64 (ba.length + bb.length + (N : Nat) : Nat)) ∧ W.heap[U]? = some (.cells #[.int .i64 ((ba.length : Int) + (N : Int)), .int .i64 bb.length] 52 (0, 0)) ∧ Keeps [] W w') := fun W kW => by
              have hus := used_dx (H7.out.keep kW) G6.out.p.dead
              rw [G6.out.used] at hus
              refine hus.mono fun e w' hr => ⟨?_, (kW.block U (Array.getElem?_eq_some_iff.1 HU7.out).1 (by simp)).trans HU7.out, hr.2⟩
              exact hr.1.trans (congrArg (fun n : Nat => Ending.returned (.int .i64 (n : Int))) (by simp [hpl]; omega))
            go_upto_region 20 with fail
            go_cut [109] from 30 to 108 (fun u wx => u = .bool false ∧ Keeps [] w7 wx)
            case first =>
              have hKr := (Keeps.refl [] w7).drew
              have c0w7 : w7.cell? ⟨U, 0, none⟩ = some (.int .i64 ((ba.length : Int) + (N : Int))) := by simp only [World.cell?, HU7.out]; rfl
              have c1w7 : w7.cell? ⟨U, 1, none⟩ = some (.int .i64 bb.length) := by simp only [World.cell?, HU7.out]; rfl
              have hwr : IntKind.i64.wrap ((ba.length : Int) + (bb.length : Int)) = (ba.length : Int) + (bb.length : Int) := by rw [IntKind.wrap_i64]; omega
              go_region_held3 (fun w' => w'.cell? ⟨U, 0, none⟩ = some (.int .i64 ((ba.length : Int) + (N : Int))) ∧ w'.cell? ⟨U, 1, none⟩ = some (.int .i64 bb.length) ∧ Keeps [] w7 w') (first | exact ⟨c0w7, c1w7, hKr⟩ | exact ⟨c09, c19, HKK⟩ | go_keep)
                (first | (go_at_call 30; refine (HUs.out _ (by assumption)).mono ?_; (rintro e w9 ⟨rfl, hu9, kk⟩); (have HKK := (show Keeps [] w7 _ by assumption).trans kk); (have hu99 := (kk.block U (Array.getElem?_eq_some_iff.1 hu9).1 (by simp)).trans hu9); (have c09 : w9.cell? ⟨U, 0, none⟩ = some (.int .i64 ((ba.length : Int) + (N : Int))) := (by simp only [World.cell?, hu99]; rfl)); (have c19 : w9.cell? ⟨U, 1, none⟩ = some (.int .i64 bb.length) := (by simp only [World.cell?, hu99]; rfl))))
              all_goals (go_wp2_with fail; go_meet; refine ⟨?_, HKK⟩; first | rfl | (refine congrArg Value.bool (bne_eq_false_iff_eq.2 ?_); rw [IntKind.wrap_i64]; omega))
            case rest =>
              obtain ⟨rfl, kc⟩ := hcut
              have HU9 : Hid (wc.heap[U]? = _) := (kc.block U (Array.getElem?_eq_some_iff.1 HU7.out).1 (by simp)).trans HU7.out
              have H9 := Lib.hid (H7.out.keep kc)
              have HB9 : Hid (Below w.heap.size w wc) := HB7.out.trans (kc.below HB7.out.size (by simp))
              clear kc
              go_wp2_with fail
              go_roundw
              case rel => exact ⟨k + 1, fa, fb, ba ++ p0, bb, _, by go_num, by omega, by omega, H9.out, G6.out.more (by omega), (by rw [HU9.out]; simp [hpl]), HB9.out⟩
              case measure => simp [intOf]; omega
        · subst hK0
          go_wp2_with (go_quiet (fail))
          refine (bytes_any _ k N (by omega) (by omega)).mono ?_
          rintro e w5 ⟨rfl, k5⟩
          have hpl := bytesOf_length k N
          generalize bytesOf k N = p0 at *
          have h5 := (HW.out _).1.keep k5
          have hDl5 := h5.base_le.2.2
          have HU5 : Hid ((convW w5 (textOf p0)).heap[U]? = some (.cells #[.int .i64 ba.length, .int .i64 bb.length] 52 (0, 0))) := ((k5.trans (conv_keeps w5 (textOf p0))).block U (Array.getElem?_eq_some_iff.1 (HW.out _).2.2).1 (by simp)).trans (HW.out _).2.2
          have HB5 : Hid (Below w.heap.size w (convW w5 (textOf p0))) := (HW.out _).2.1.trans ((k5.trans (conv_keeps w5 (textOf p0))).below (HW.out _).2.1.size (by simp))
          have HAp := Lib.hid (append_q (h5.keep (conv_keeps w5 (textOf p0))) HQ.out.swap two_ba (by omega) hq2 (by decide) (by decide) _ p0 (conv_text w5 p0) (conv_off w5 (textOf p0) hDl5) (by omega))
          clear h5 k5 HW HX HB HU
          go_wp2_with fail
          refine HAp.out.mono ?_
          rintro e w6 ⟨⟨b6, t6⟩, hor⟩
          have HB6 : Hid (Below w.heap.size w w6) := HB5.out.trans b6
          have HU6 : Hid (w6.heap[U]? = some (.cells #[.int .i64 ba.length, .int .i64 bb.length] 52 (0, 0))) := t6 U _ _ _ HU5.out (by simp)
          clear b6 t6 HAp HB5 HU5
          have c06 : w6.cell? ⟨U, 0, none⟩ = some (.int .i64 ba.length) := by simp only [World.cell?, HU6.out]; rfl
          have c16 : w6.cell? ⟨U, 1, none⟩ = some (.int .i64 bb.length) := by simp only [World.cell?, HU6.out]; rfl
          have f6 : w6.frozen? ⟨U, 1, none⟩ = false := by simp [World.frozen?, HU6.out]
          have hqu := HQ.out.u
          rw [hpl] at hor
          rcases hor with ⟨hgt, rfl, S6, h6, g6⟩ | ⟨hgt, rfl, S6, h6, g6⟩
          · have hgd : decide ((ba.length : Int) + (bb.length : Int) + (N : Int) > (q : Int)) = true := decide_eq_true (by omega)
            have H6 := Lib.hid h6
            have G6 := Lib.hid g6
            clear h6 g6 HQ
            have HUs : Hid (∀ W, Keeps [] w6 W → Calls Try.prog 30 #[.pointer (some ⟨w.heap.size + 1 + 1, 0, none⟩)] W fun e w' => e = .returned (.int .i64 (ba.length + bb.length : Nat)) ∧ W.heap[U]? = some (.cells #[.int .i64 ba.length, .int .i64 bb.length] 52 (0, 0)) ∧ Keeps [] W w') := fun W kW => by
              have hus := used_dx (H6.out.keep kW) G6.out.p.dead
              rw [G6.out.used] at hus
              refine hus.mono fun e w' hr => ⟨?_, (kW.block U (Array.getElem?_eq_some_iff.1 HU6.out).1 (by simp)).trans HU6.out, hr.2⟩
              exact hr.1.trans (by rw [Nat.add_comm])
            go_upto_region 20 with fail
            go_cut [109] from 30 to 108 (fun u wx => u = .bool false ∧ Keeps [] w6 wx)
            case first =>
              have hKr := (Keeps.refl [] w6).drew
              have c0w6 : w6.cell? ⟨U, 0, none⟩ = some (.int .i64 ba.length) := by simp only [World.cell?, HU6.out]; rfl
              have c1w6 : w6.cell? ⟨U, 1, none⟩ = some (.int .i64 bb.length) := by simp only [World.cell?, HU6.out]; rfl
              have hwr : IntKind.i64.wrap ((ba.length : Int) + (bb.length : Int)) = (ba.length : Int) + (bb.length : Int) := by rw [IntKind.wrap_i64]; omega
              go_region_held3 (fun w' => w'.cell? ⟨U, 0, none⟩ = some (.int .i64 ba.length) ∧ w'.cell? ⟨U, 1, none⟩ = some (.int .i64 bb.length) ∧ Keeps [] w6 w') (first | exact ⟨c0w6, c1w6, hKr⟩ | exact ⟨c09, c19, HKK⟩ | go_keep)
                (first | (go_at_call 30; refine (HUs.out _ (by assumption)).mono ?_; (rintro e w9 ⟨rfl, hu9, kk⟩); (have HKK := (show Keeps [] w6 _ by assumption).trans kk); (have hu99 := (kk.block U (Array.getElem?_eq_some_iff.1 hu9).1 (by simp)).trans hu9); (have c09 : w9.cell? ⟨U, 0, none⟩ = some (.int .i64 ba.length) := (by simp only [World.cell?, hu99]; rfl)); (have c19 : w9.cell? ⟨U, 1, none⟩ = some (.int .i64 bb.length) := (by simp only [World.cell?, hu99]; rfl))))
              all_goals (go_wp2_with fail; go_meet; refine ⟨?_, HKK⟩; first | rfl | (refine congrArg Value.bool (bne_eq_false_iff_eq.2 ?_); rw [IntKind.wrap_i64]; omega))
            case rest =>
              obtain ⟨rfl, kc⟩ := hcut
              have HU9 : Hid (wc.heap[U]? = _) := (kc.block U (Array.getElem?_eq_some_iff.1 HU6.out).1 (by simp)).trans HU6.out
              have H9 := Lib.hid (H6.out.keep kc)
              have HB9 : Hid (Below w.heap.size w wc) := HB6.out.trans (kc.below HB6.out.size (by simp))
              clear kc
              go_wp2_with fail
              go_roundw
              case rel => exact ⟨k + 1, fa, fb, ba, bb, _, by go_num, by omega, by omega, H9.out, (G6.out.more (by omega)).swap, HU9.out, HB9.out⟩
              case measure => simp [intOf]; omega
          · have hgd : decide ((ba.length : Int) + (bb.length : Int) + (N : Int) > (q : Int)) = false := decide_eq_false (by omega)
            have HU7 : Hid ((w6.setCell ⟨U, 1, none⟩ (.int .i64 ((bb.length : Int) + (N : Int)))).heap[U]? = some (.cells #[.int .i64 ba.length, .int .i64 ((bb.length : Int) + (N : Int))] 52 (0, 0))) := cells_set HU6.out 1 _
            have K7 : Hid (Keeps [U] w6 (w6.setCell ⟨U, 1, none⟩ (.int .i64 ((bb.length : Int) + (N : Int))))) := (Keeps.refl _ _).setCell _ _ fun _ => by simp
            have H7 := Lib.hid (h6.keepU K7.out HU6.out (by simp))
            have HB7 : Hid (Below w.heap.size w (w6.setCell ⟨U, 1, none⟩ (.int .i64 ((bb.length : Int) + (N : Int))))) := HB6.out.trans (K7.out.below HB6.out.size (by simpa using hwU))
            have G6 := Lib.hid g6
            have hgl := g6.u
            simp only [List.length_append, hpl] at hgl
            clear h6 g6 HQ
            go_upto_region 20 with fail
            generalize w6.setCell ⟨U, 1, none⟩ (.int .i64 ((bb.length : Int) + (N : Int))) = w7 at *
            have HUs : Hid (∀ W, Keeps [] w7 W → Calls Try.prog 30 #[.pointer (some ⟨w.heap.size + 1 + 1, 0, none⟩)] W fun e w' => e = .returned (.int .i64 (ba.length + bb.length + (N : Nat) : Nat)) ∧ W.heap[U]? = some (.cells #[.int .i64 ba.length, .int .i64 ((bb.length : Int) + (N : Int))] 52 (0, 0)) ∧ Keeps [] W w') := fun W kW => by
              have hus := used_dx (H7.out.keep kW) G6.out.p.dead
              rw [G6.out.used] at hus
              refine hus.mono fun e w' hr => ⟨?_, (kW.block U (Array.getElem?_eq_some_iff.1 HU7.out).1 (by simp)).trans HU7.out, hr.2⟩
              exact hr.1.trans (congrArg (fun n : Nat => Ending.returned (.int .i64 (n : Int))) (by simp [hpl]; omega))
            go_upto_region 20 with fail
            go_cut [109] from 30 to 108 (fun u wx => u = .bool false ∧ Keeps [] w7 wx)
            case first =>
              have hKr := (Keeps.refl [] w7).drew
              have c0w7 : w7.cell? ⟨U, 0, none⟩ = some (.int .i64 ba.length) := by simp only [World.cell?, HU7.out]; rfl
              have c1w7 : w7.cell? ⟨U, 1, none⟩ = some (.int .i64 ((bb.length : Int) + (N : Int))) := by simp only [World.cell?, HU7.out]; rfl
              have hwr : IntKind.i64.wrap ((ba.length : Int) + (bb.length : Int)) = (ba.length : Int) + (bb.length : Int) := by rw [IntKind.wrap_i64]; omega
              go_region_held3 (fun w' => w'.cell? ⟨U, 0, none⟩ = some (.int .i64 ba.length) ∧ w'.cell? ⟨U, 1, none⟩ = some (.int .i64 ((bb.length : Int) + (N : Int))) ∧ Keeps [] w7 w') (first | exact ⟨c0w7, c1w7, hKr⟩ | exact ⟨c09, c19, HKK⟩ | go_keep)
                (first | (go_at_call 30; refine (HUs.out _ (by assumption)).mono ?_; (rintro e w9 ⟨rfl, hu9, kk⟩); (have HKK := (show Keeps [] w7 _ by assumption).trans kk); (have hu99 := (kk.block U (Array.getElem?_eq_some_iff.1 hu9).1 (by simp)).trans hu9); (have c09 : w9.cell? ⟨U, 0, none⟩ = some (.int .i64 ba.length) := (by simp only [World.cell?, hu99]; rfl)); (have c19 : w9.cell? ⟨U, 1, none⟩ = some (.int .i64 ((bb.length : Int) + (N : Int))) := (by simp only [World.cell?, hu99]; rfl))))
              all_goals (go_wp2_with fail; go_meet; refine ⟨?_, HKK⟩; first | rfl | (refine congrArg Value.bool (bne_eq_false_iff_eq.2 ?_); rw [IntKind.wrap_i64]; omega))
            case rest =>
              obtain ⟨rfl, kc⟩ := hcut
              have HU9 : Hid (wc.heap[U]? = _) := (kc.block U (Array.getElem?_eq_some_iff.1 HU7.out).1 (by simp)).trans HU7.out
              have H9 := Lib.hid (H7.out.keep kc)
              have HB9 : Hid (Below w.heap.size w wc) := HB7.out.trans (kc.below HB7.out.size (by simp))
              clear kc
              go_wp2_with fail
              go_roundw
              case rel => exact ⟨k + 1, fa, fb, ba, bb ++ p0, _, by go_num, by omega, by omega, H9.out, (G6.out.more (by omega)).swap, (by rw [HU9.out]; simp [hpl]), HB9.out⟩
              case measure => simp [intOf]; omega
    · rcases (by omega : k = l.length ∨ (k = 40 ∧ 40 < l.length)) with hk | ⟨hk, hk2⟩
      all_goals
        subst hk
        go_wp2_with fail
        refine (awake_any wr).mono ?_
        rintro e w7 ⟨rfl, b7⟩
        have HB7 := Lib.hid b7
        clear b7
        go_wp2
        go_ret
        exact ⟨rfl, HB.out.trans (HB7.out.mono HB.out.size)⟩
end Go.Proofs.Ytebkgkaihjoamaa
