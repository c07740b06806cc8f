/- Remove's and Rename's functions: a turn is done, and kept. -/
import Derived.Test.YtebkgkaihjoamaaSyncD
namespace Go.Proofs.Ytebkgkaihjoamaa
open Go.RowKit Go.Proofs

set_option maxRecDepth 100000 in
set_option maxHeartbeats 2000000 in
theorem remove1 {w : World} {D N L n B1 B2 base tn : Nat} {q c st fl fe : Int} {dead : Bool} {vf vt : Value} {nm : DataW Unit} {tv : List Value} (h : DiskIs w D q c st fl fe dead vf N L vt) (hN : NamesAt w N n nm) (hn : n ≤ 100000) (s : ByteArray) (hs : s.size ≤ maxLen)
    (hb1 : Boxed w B1 23 (.pointer (some ⟨D, 0, none⟩))) (hb2 : Boxed w B2 9 (.string s)) (ht : w.ownsRow base 66 4 vt tn tv) (hbase : base ≤ w.heap.size) (htn : tn ≤ 100000) (f : Nat) :
    Calls Try.prog 50 #[fptr f, .pointer (some ⟨B2, 0, none⟩), .pointer (some ⟨B1, 0, none⟩)] w fun e w' => e = .returned (.int .i64 0) ∧ ∃ vt', DiskIs w' D q c st fl fe dead vf N L vt' ∧ NamesAt w' N (n + 1) ((Turn.drop s).lead nm) ∧ w'.ownsRow base 66 4 vt' (tn + 1) (tv ++ (Turn.drop s).cells) ∧
      Keeps (D :: N :: vt.ownBlock.toList) w w' := by
  have k0 : Keeps [] w (w.alloc (.cells #[.int .i64 2, .string s, .string ⟨#[]⟩, .pointer none] 66)) := (Keeps.refl [] w).alloc _
  have hT0 := heap_alloc_new w (.cells #[.int .i64 2, .string s, .string ⟨#[]⟩, .pointer none] 66)
  have k1 := hb1.cell
  have k2 := hb2.cell
  have hDl := h.lt
  have hl1 := hb1.lt
  have hl2 := hb2.lt
  have HD := Lib.hid h
  have HB1 := Lib.hid hb1
  have HT := Lib.hid ht
  have HN := Lib.hid hN
  clear h hb1 hb2 ht hN
  have HL : Hid (∀ j, Calls Try.prog 38 #[.agg #[.int .i64 2, .string s, .string ⟨#[]⟩, .pointer none], .map (some N)] ((w.alloc (.cells #[.int .i64 2, .string s, .string ⟨#[]⟩, .pointer none] 66)).drewN j) fun e w' => (∃ v, e = .returned v) ∧ NamesAt w' N (n + 1) ((Turn.drop s).lead nm) ∧ Keeps [N] ((w.alloc (.cells #[.int .i64 2, .string s, .string ⟨#[]⟩, .pointer none] 66)).drewN j) w') := (fun j => lead_any (w := (w.alloc (.cells #[.int .i64 2, .string s, .string ⟨#[]⟩, .pointer none] 66)).drewN j) (k0.names HN.out (by simp)) (by omega) (Turn.drop s) hs)
  have c7 : w.cell? ⟨D, 7, none⟩ = some (.map (some N)) := HD.out.cell 7 _ rfl
  go_enter Try.func50, Try.ntmps50
  go_wp2_with fail
  refine wp_region_tail 5 (by kernel_rfl) (by kernel_rfl) ?_
  simp only [List.take_succ_cons, List.take_zero, List.drop_succ_cons, List.drop_zero]
  repeat (go_big_quiet_step (fail))
  refine wpQuiet_nil ?_
  rintro _ ⟨nq, rfl⟩
  go_wp2_with (go_at_call 38; (with_reducible refine (HL.out nq).mono ?_); rintro e w2 ⟨⟨_, rfl⟩, h2, h3⟩; (have HN2 := Lib.hid h2); (have HK2 : Hid (Keeps [N] w w2) := ((k0.mono (by simp)).drewN nq).trans h3); (have HT2 : Hid (w2.heap[w.heap.size]? = some (.cells #[.int .i64 2, .string s, .string ⟨#[]⟩, .pointer none] 66 (0, 0))) := (h3.block w.heap.size (by simp) (by have := World.ownsMap.lt HN.out; simp; omega)).trans hT0); clear h2 h3)
  have hDN : D ≠ N := (map_ne HN.out HD.out).symm
  have hB1N : B1 ≠ N := (map_ne HN.out HB1.out).symm
  have hB1D : B1 ≠ D := cells_ne HB1.out HD.out (by decide)
  have hTN : w.heap.size ≠ N := by have := World.ownsMap.lt HN.out; omega
  have hs2 := HK2.out.size
  have hTl : w.heap.size < w2.heap.size := (Array.getElem?_eq_some_iff.1 HT2.out).1
  have HD2 := Lib.hid (HK2.out.disk HD.out (by simpa using hDN))
  have HB2 := Lib.hid (HK2.out.boxed HB1.out (by simpa using hB1N))
  have HR2 := Lib.hid (HK2.out.row HT.out (fun k hk => by simpa using fun e : k = N => map_own_ne HN.out HT.out (e ▸ hk)))
  have d1 := HB2.out.cell
  have d9 : w2.cell? ⟨D, 9, none⟩ = some vt := HD2.out.cell 9 _ rfl
  have z9 := HD2.out.frozen 9
  have t0 : w2.cell? ⟨w.heap.size, 0, none⟩ = some (.int .i64 2) := by simp [World.cell?, HT2.out]
  have t1 : w2.cell? ⟨w.heap.size, 1, none⟩ = some (.string s) := by simp [World.cell?, HT2.out]
  have t2 : w2.cell? ⟨w.heap.size, 2, none⟩ = some (.string ⟨#[]⟩) := by simp [World.cell?, HT2.out]
  have t3 : w2.cell? ⟨w.heap.size, 3, none⟩ = some (.pointer none) := by simp [World.cell?, HT2.out]
  clear k1 k2 c7 HL k0 hT0
  have hl12 : B1 < w2.heap.size := by omega
  have hDl2 : D < w2.heap.size := by omega
  have hb2 : base ≤ w2.heap.size := by omega
  have a1 : ∀ o, (w2.alloc o).cell? ⟨B1, 0, none⟩ = some (.pointer (some ⟨D, 0, none⟩)) := fun o => by rw [World.cell?_alloc_past _ _ _ hl12]; exact d1
  have a9 : ∀ o, (w2.alloc o).cell? ⟨D, 9, none⟩ = some vt := fun o => by rw [World.cell?_alloc_past _ _ _ hDl2]; exact d9
  have z9' : ∀ o, (w2.alloc o).frozen? ⟨D, 9, none⟩ = false := fun o => (HD2.out.alloc o).frozen 9
  have HDne : Hid (vt.ownBlock ≠ some D) := fun e => own_ne HR2.out HD2.out (by decide) e
  have HBne : Hid (vt.ownBlock ≠ some B1) := fun e => own_ne HR2.out HB2.out (by decide) e
  obtain ⟨i0, hi0, hu0, hu1, hu2⟩ := info_parts info66
  go_wp2_with fail
  go_cut [] from 14 to 23 (fun wx => ∃ g cap, DiskIs wx D q c st fl fe dead vf N L (.slice (some ⟨g, 0, none⟩) (tn + 1) cap) ∧ wx.ownsRow base 66 4 (.slice (some ⟨g, 0, none⟩) (tn + 1) cap) (tn + 1) (tv ++ [.int .i64 2, .string s, .string ⟨#[]⟩, .pointer none]) ∧ Keeps (D :: vt.ownBlock.toList) w2 wx)
  case first =>
    go_region_law ((refine step_append_lies _ (by rfl) _ _ _ (by rfl) base 66 i0 _ 4 48 Try.underlying58 hi0 hu0 hu1 hu2 rfl (by omega) vt tn _ (by rfl) ((HR2.out.alloc _).drew) ⟨w2.heap.size, 0, none⟩ 1 1 [.int .i64 2, .string s, .string ⟨#[]⟩, .pointer none] (by rfl) (by rfl) (World.news_of_block (cs := #[.int .i64 2, .string s, .string ⟨#[]⟩, .pointer none]) (t := 66) (fr := (0, 0)) (heap_alloc_new w2 _)) (by simp [Value.oneCell']) (by omega) (by unfold maxLen; omega) (by omega) (by first | (simp; omega) | (simp; done) | omega) (w2.heap.size + 1) (by simp) ?_; intro gg cap w8 hown1 hgrow hat hlt; have hk9 : w8.cell? ⟨D, 9, none⟩ = some vt := (by rw [hgrow.cell_far _ (by simp; omega) HDne.out.symm]; exact a9 _); have hkB : w8.cell? ⟨B1, 0, none⟩ = some (.pointer (some ⟨D, 0, none⟩)) := (by rw [hgrow.cell_far _ (by simp; omega) HBne.out.symm]; exact a1 _); have hz9 : w8.frozen? ⟨D, 9, none⟩ = false := (by rw [hgrow.frozen_far _ (by simp; omega) HDne.out.symm]; exact z9' _)))
    all_goals
      go_wp2_with fail
      go_meet
      refine ⟨gg, cap, ?_, ?_, ?_⟩
      · exact DiskIs.turns (HD2.out.of_block ((hgrow.block D (by simp; omega) (fun e => HDne.out e.symm)).trans ((HD2.out.alloc _).trans HD2.out.symm))) _
      · exact ownsRow_set2' hown1 D 9 _ (fun e => own_ne hown1 (hgrow.block D (by simp; omega) (fun e => HDne.out e.symm) |>.trans (HD2.out.alloc _)) (by decide) e)
      · exact (((((Keeps.refl _ w2).alloc _).drew).grown hgrow fun k hk _ => by rw [hk]; simp).setCell _ _ fun _ => by simp)
  case rest =>
  obtain ⟨g8, cap8, hD8, ht8, hk8⟩ := hcut
  have HD8 := Lib.hid hD8
  have HT8 := Lib.hid ht8
  have HK8 := Lib.hid hk8
  clear hD8 ht8 hk8
  go_wp2_with fail
  go_ret
  refine ⟨rfl, _, HD8.out, HK8.out.names HN2.out (notin hDN.symm (map_own_ne HN.out HT.out)), HT8.out, ?_⟩
  refine (HK2.out.mono (by simp)).trans (HK8.out.mono fun x hx => ?_)
  rcases List.mem_cons.1 hx with rfl | hx
  · simp
  · exact List.mem_cons_of_mem _ (List.mem_cons_of_mem _ hx)
end Go.Proofs.Ytebkgkaihjoamaa
