/- SyncDir. -/
import Derived.Test.YtebkgkaihjoamaaCallX
import Derived.Test.YtebkgkaihjoamaaMakeX
namespace Go.Proofs.Ytebkgkaihjoamaa
open Go.RowKit Go.Proofs

theorem DX.base_le' {base D : Nat} {w : World} {S : St} (h : DX base w D S) : base ≤ w.heap.size ∧ base ≤ D := by
  obtain ⟨vf, N, L, vt, nn, nl, vb, h1⟩ := h.at_
  exact ⟨h1.bw, h1.bD⟩
theorem DiskIs.lasts {w : World} {D : Nat} {q c st fl fe : Int} {dead : Bool} {vf : Value} {N L : Nat} {vt : Value} (h : DiskIs w D q c st fl fe dead vf N L vt) (L' : Nat) : DiskIs (w.setCell ⟨D, 8, none⟩ (.map (some L'))) D q c st fl fe dead vf N L' vt := cells_set h 8 _
set_option maxRecDepth 100000 in
theorem syncdir1 {w : World} {D N L n B : Nat} {q c st fl fe : Int} {dead : Bool} {vf vt : Value} {nm : DataW Unit} (h : DiskIs w D q c st fl fe dead vf N L vt) (hN : NamesAt w N n nm) (hb : Boxed w B 23 (.pointer (some ⟨D, 0, none⟩))) :
    Calls Try.prog 35 #[.pointer (some ⟨B, 0, none⟩)] w fun e w' => e = .returned (.int .i64 0) ∧ ∃ L', w.heap.size ≤ L' ∧ DiskIs w' D q c st fl fe dead vf N L' (.slice none 0 0) ∧ NamesAt w' L' n nm ∧ Keeps [D] w w' := by
  have HC := Lib.hid (clone_map w.drew N n nm hN)
  have HD := Lib.hid h
  have HB := Lib.hid hb
  have d1 := hb.cell
  have c7 : w.cell? ⟨D, 7, none⟩ = some (.map (some N)) := h.cell 7 _ rfl
  have hDl := h.lt
  have hDB : B ≠ D := cells_ne hb h (by decide)
  clear h hN hb
  go_enter Try.func35, Try.ntmps35
  go_wp2_with fail
  go_cut [] from 2 to 9 (fun wx => ∃ L', w.heap.size ≤ L' ∧ DiskIs wx D q c st fl fe dead vf N L' vt ∧ NamesAt wx L' n nm ∧ Keeps [D] w wx)
  case first =>
    go_region_with (go_at_call 36; (with_reducible refine HC.out.mono ?_); rintro e w2 ⟨rfl, h2, h3, h4⟩; (have HK2 : Hid (Keeps [] w w2) := ((Keeps.refl [] w).drew).grown h3 (fun k e => by cases e)); (have HN2 := Lib.hid h2); (have HD2 := Lib.hid (HK2.out.disk HD.out (by simp))); (have d2 := (HK2.out.boxed HB.out (by simp)).cell); (have c8 : w2.cell? ⟨D, 8, none⟩ = some (.map (some L)) := HD2.out.cell 8 _ rfl); (have z8 := HD2.out.frozen 8); clear h2 h3 h4)
    all_goals
      go_wp2_with fail
      go_meet
      refine ⟨w.heap.size, Nat.le_refl _, HD2.out.lasts _, World.ownsMap.setCell HN2.out (by simp; omega) _, (HK2.out.mono (by simp)).setCell _ _ fun _ => by simp⟩
  case rest =>
    obtain ⟨L', h1, h2, h3, h4⟩ := hcut
    have d2 := (h4.boxed HB.out (by simpa using hDB)).cell
    have c9 : wc.cell? ⟨D, 9, none⟩ = some vt := h2.cell 9 _ rfl
    have z9 := h2.frozen 9
    have HD2 := Lib.hid (h2.turns (.slice none 0 0))
    have HN2 := Lib.hid (World.ownsMap.setCell (a := ⟨D, 9, none⟩) h3 (by simp; omega) (.slice none 0 0))
    have HK2 := Lib.hid (h4.setCell ⟨D, 9, none⟩ (.slice none 0 0) (fun _ => by simp))
    clear h2 h3 h4
    go_wp2_with fail
    go_ret
    exact ⟨rfl, L', h1, HD2.out, HN2.out, HK2.out⟩
theorem callFunc35 (A : Array Value) (W : World) : (callFunc 35 A).run Try.prog W = .ok (.enter 35 A) W := by kernel_rfl

/-- names last as they are -/
def St.lasting (S : St) : St := { S with ls := S.nm, ts := [] }
theorem syncdir1_dx {base D B : Nat} {w : World} {S : St} (h : DX base w D S) (hb : Boxed w B 23 (.pointer (some ⟨D, 0, none⟩))) :
    Calls Try.prog 35 #[.pointer (some ⟨B, 0, none⟩)] w fun e w' => ∃ v, e = .returned v ∧ Below base w w' ∧ v = .int .i64 0 ∧ DX base w' D S.lasting := by
  obtain ⟨vf, N, L, vt, nn, nl, vb, h1⟩ := h.at_
  refine (syncdir1 h1.d h1.n hb).mono ?_
  rintro e w' ⟨rfl, L', hL, hd, hl, k⟩
  have hB := k.below h.base_le'.1 (by simpa using h.base_le'.2)
  refine ⟨_, rfl, hB, rfl, ⟨vf, N, L', .slice none 0 0, nn, nn, vb, ?_⟩, h.vn, h.vn, fun t ht => absurd ht (by simp [St.lasting]), h.bl, h.sf, h.sn, by have := h.sn; simpa [St.lasting] using this, h.sc⟩
  refine ⟨hd, k.row h1.rf fun j hj hm => own_ne h1.rf h1.d (by decide) (List.mem_singleton.1 hm ▸ hj), World.ownsRow_nil _ _ _ _, k.names h1.n (by simpa using map_ne h1.n h1.d), hl, fun e => by have := World.ownsMap.lt h1.n; omega, h1.bD, h1.bN, by have := h1.bw; omega, Nat.le_trans h1.bw k.size,
    fun f hf => ⟨(h1.f f hf).1, (k.block f (Array.getElem?_eq_some_iff.1 (h1.f f hf).2.1).1 (by simpa using cells_ne (h1.f f hf).2.1 h1.d (by decide))).trans (h1.f f hf).2.1, k.row (h1.f f hf).2.2 fun j hj hm => own_ne (h1.f f hf).2.2 h1.d (by decide) (List.mem_singleton.1 hm ▸ hj)⟩, h1.nd, h1.ap⟩
set_option maxRecDepth 100000 in
theorem syncdir_dx {base D : Nat} {w : World} {S S1 : St} (h : DX base w D S) (R' : Value → World → Prop) (H : Handed base w D S1 (fun v w' => Below base w w' ∧ v = .int .i64 0 ∧ DX base w' D S1.lasting) R') :
    Calls Try.prog 14 #[.pointer (some ⟨D, 0, none⟩)] w fun e w' => ∃ v, e = .returned v ∧ R' v w' := by
  have k0 : Keeps [] w (w.alloc (.cells #[.pointer (some ⟨D, 0, none⟩)] 23)) := (Keeps.refl [] w).alloc _
  have b1 := Boxed.new w 23 (.pointer (some ⟨D, 0, none⟩))
  have hDl := h.base_le'
  have HF := Lib.hid (H _ k0 35 #[.pointer (some ⟨w.heap.size, 0, none⟩)] callFunc35 (fun W hW kW => by
    have hDl2 : D < w.heap.size := by
      obtain ⟨vf, N, L, vt, nn, nl, vb, h1⟩ := h.at_
      exact h1.d.lt
    refine (syncdir1_dx hW (kW.boxed b1 (by simp; omega))).mono ?_
    rintro e w' ⟨v, he, hb, hr⟩
    exact ⟨v, he, (((k0.mono (by simp)).trans kW).below hDl.1 (by simpa using hDl.2)).trans hb, hr⟩))
  have c1 := b1.cell
  clear H h b1 k0
  go_enter Try.func14, Try.ntmps14
  go_wp2_with fail
  refine HF.out.mono ?_
  rintro e w' ⟨v, rfl, hR⟩
  have HR := Lib.hid hR
  clear hR
  go_wp2
  go_ret
  exact ⟨v, rfl, HR.out⟩
end Go.Proofs.Ytebkgkaihjoamaa
