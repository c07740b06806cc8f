/- What a call keeps: all blocks but a few. -/
import Derived.Test.YtebkgkaihjoamaaCall
import Derived.Test.YtebkgkaihjoamaaName
import Derived.Deep.AppendLies
import Derived.Deep.RegionLaw
import Derived.Deep.RegionHeldLaw
import Derived.RangeFuncBox
import Derived.Maps.OwnSet
import Derived.Deep.Cut
import Derived.Deep.CutRange
namespace Go.Proofs.Ytebkgkaihjoamaa
open Go.RowKit Go.Proofs

/-- every block that was there, but for those of X, is as it was -/
structure Keeps (X : List Nat) (w w' : World) : Prop where
  os : w'.os = w.os
  tape : w'.tape = w.tape
  output : w'.output = w.output
  size : w.heap.size ≤ w'.heap.size
  block : ∀ k, k < w.heap.size → k ∉ X → w'.heap[k]? = w.heap[k]?
theorem Keeps.refl (X : List Nat) (w : World) : Keeps X w w := ⟨rfl, rfl, rfl, Nat.le_refl _, fun _ _ _ => rfl⟩
theorem Keeps.trans {X : List Nat} {a b c : World} (h : Keeps X a b) (k : Keeps X b c) : Keeps X a c :=
  ⟨k.os.trans h.os, k.tape.trans h.tape, k.output.trans h.output, Nat.le_trans h.size k.size, fun i hi hx => (k.block i (Nat.lt_of_lt_of_le hi h.size) hx).trans (h.block i hi hx)⟩
theorem Keeps.mono {X Y : List Nat} {a b : World} (h : Keeps X a b) (hs : ∀ x ∈ X, x ∈ Y) : Keeps Y a b := ⟨h.os, h.tape, h.output, h.size, fun i hi hx => h.block i hi fun e => hx (hs i e)⟩
theorem Keeps.grown {X : List Nat} {a b c : World} {row : Option Nat} (h : Keeps X a b) (hg : b.grownBy c row) (hr : ∀ k, row = some k → k < a.heap.size → k ∈ X) : Keeps X a c :=
  ⟨hg.os.trans h.os, hg.tape.trans h.tape, hg.output.trans h.output, Nat.le_trans h.size hg.size, fun i hi hx => (hg.block i (Nat.lt_of_lt_of_le hi h.size) fun e => hx (hr i e.symm hi)).trans (h.block i hi hx)⟩
theorem Keeps.alloc {X : List Nat} {a b : World} (h : Keeps X a b) (o : Obj) : Keeps X a (b.alloc o) := h.grown (World.grownBy_alloc b o none) (fun _ e => by cases e)
theorem Keeps.drew {X : List Nat} {a b : World} (h : Keeps X a b) : Keeps X a b.drew := ⟨h.os, h.tape, h.output, h.size, h.block⟩
theorem Keeps.drewN {X : List Nat} {a b : World} (h : Keeps X a b) (n : Nat) : Keeps X a (b.drewN n) := ⟨h.os, h.tape, h.output, h.size, h.block⟩
theorem Keeps.setCell {X : List Nat} {a b : World} (h : Keeps X a b) (p : Addr) (v : Value) (hp : p.block < a.heap.size → p.block ∈ X) : Keeps X a (b.setCell p v) :=
  h.grown (row := some p.block) ⟨rfl, rfl, rfl, by simp, fun i _ hi => Below.heap_setCell b p v i fun e => hi (by rw [e])⟩ fun k e hk => by cases e; exact hp hk
theorem Keeps.below {X : List Nat} {a b : World} {B : Nat} (h : Keeps X a b) (hB : B ≤ a.heap.size) (hX : ∀ x ∈ X, B ≤ x) : Below B a b :=
  ⟨h.os, h.tape, h.output, h.size, fun k hk => h.block k (by omega) fun e => by have := hX k e; omega⟩
theorem Keeps.boxed {X : List Nat} {a b : World} {B : Nat} {t : TypeId} {v : Value} (h : Keeps X a b) (hb : Boxed a B t v) (hx : B ∉ X) : Boxed b B t v := (h.block B hb.lt hx).trans hb
theorem Keeps.names {X : List Nat} {a b : World} {N n : Nat} {D : DataW Unit} (h : Keeps X a b) (hn : NamesAt a N n D) (hx : N ∉ X) : NamesAt b N n D := by
  have hlt := World.ownsMap.lt hn
  obtain ⟨es, clock, hb, r⟩ := hn
  exact ⟨es, clock, (h.block N hlt hx).trans hb, r⟩
theorem Keeps.row {X : List Nat} {a b : World} {base n size : Nat} {e : TypeId} {v : Value} {xs : List Value} (h : Keeps X a b) (hr : a.ownsRow base e size v n xs) (hx : ∀ k, v.ownBlock = some k → k ∉ X) : b.ownsRow base e size v n xs := by
  refine ⟨hr.1, ?_⟩
  rcases hr.2 with h' | ⟨g, cap, cur, hv, hg, hh, r⟩
  · exact .inl h'
  · exact .inr ⟨g, cap, cur, hv, hg, (h.block g (Array.getElem?_eq_some_iff.1 hh).1 (hx g (by rw [hv]; rfl))).trans hh, r⟩
theorem Keeps.disk {X : List Nat} {w w' : World} {D : Nat} {q c st fl fe : Int} {dead : Bool} {vf : Value} {N L : Nat} {vt : Value} (k : Keeps X w w') (h : DiskIs w D q c st fl fe dead vf N L vt) (hx : D ∉ X) : DiskIs w' D q c st fl fe dead vf N L vt := h.of_block (k.block D h.lt hx)

theorem DiskIs.files {w : World} {D : Nat} {q c st fl fe : Int} {dead : Bool} {vf : Value} {N L : Nat} {vt : Value} (h : DiskIs w D q c st fl fe dead vf N L vt) (v' : Value) : DiskIs (w.setCell ⟨D, 6, none⟩ v') D q c st fl fe dead v' N L vt := cells_set h 6 _
theorem DiskIs.turns {w : World} {D : Nat} {q c st fl fe : Int} {dead : Bool} {vf : Value} {N L : Nat} {vt : Value} (h : DiskIs w D q c st fl fe dead vf N L vt) (v' : Value) : DiskIs (w.setCell ⟨D, 9, none⟩ v') D q c st fl fe dead vf N L v' := cells_set h 9 _
theorem info62 : (Try.prog.info? 62).map (fun i => (i.zero, i.size, i.bytes)) = some (some (.pointer none), 1, 8) := by kernel_rfl
theorem info66 : (Try.prog.info? 66).map (fun i => (i.zero, i.size, i.bytes)) = some (some (.agg #[.int .i64 0, .string ⟨#[]⟩, .string ⟨#[]⟩, .pointer none]), 4, 48) := by kernel_rfl

theorem ownsRow_set2' {w : World} {base : Nat} {e : TypeId} {size : Nat} {v : Value} {n : Nat} {xs : List Value} (h : w.ownsRow base e size v n xs) (s i : Nat) (u : Value) (hs : v.ownBlock ≠ some s) : (w.setCell ⟨s, i, none⟩ u).ownsRow base e size v n xs := by
  refine ⟨h.1, ?_⟩
  rcases h.2 with h | ⟨g, cap, cur, hv, hg, hh, r⟩
  · exact .inl h
  · exact .inr ⟨g, cap, cur, hv, hg, (Below.heap_setCell w ⟨s, i, none⟩ u g (by rw [hv] at hs; simpa [Value.ownBlock] using hs)).trans hh, r⟩
theorem own_cells {w : World} {base size n k : Nat} {e : TypeId} {v : Value} {xs : List Value} (h : w.ownsRow base e size v n xs) (hv : v.ownBlock = some k) : ∃ cs, w.heap[k]? = some (.cells cs e (0, 0)) := by
  rcases h.2 with ⟨rfl, _⟩ | ⟨g, cap, cur, rfl, _, hg, _⟩
  · simp [Value.ownBlock] at hv
  · obtain rfl : g = k := by simpa [Value.ownBlock] using hv
    exact ⟨cur, hg⟩
theorem notin {D k : Nat} {v : Value} (h1 : k ≠ D) (h2 : v.ownBlock ≠ some k) : k ∉ D :: v.ownBlock.toList := by
  intro h
  rcases List.mem_cons.1 h with h | h
  · exact h1 h
  · simp at h; exact h2 h
theorem sub_left {D N : Nat} {a b : List Nat} : ∀ x ∈ D :: a, x ∈ D :: N :: (a ++ b) := fun x hx => by
  simp only [List.mem_cons, List.mem_append] at hx ⊢
  rcases hx with h | h
  · exact .inl h
  · exact .inr (.inr (.inl h))
theorem sub_right {D N : Nat} {a b : List Nat} : ∀ x ∈ D :: b, x ∈ D :: N :: (a ++ b) := fun x hx => by
  simp only [List.mem_cons, List.mem_append] at hx ⊢
  rcases hx with h | h
  · exact .inl h
  · exact .inr (.inr (.inr h))
theorem cells_ne {w : World} {a b : Nat} {ca cb : Array Value} {ta tb : TypeId} {fa fb : Nat × Nat} (ha : w.heap[a]? = some (.cells ca ta fa)) (hb : w.heap[b]? = some (.cells cb tb fb)) (h : ta ≠ tb) : a ≠ b := fun e => by
  subst e; rw [ha] at hb; simp at hb; exact h hb.2.1
theorem map_ne {w : World} {a N n : Nat} {D : DataW Unit} {ca : Array Value} {ta : TypeId} {fa : Nat × Nat} (hN : NamesAt w N n D) (ha : w.heap[a]? = some (.cells ca ta fa)) : N ≠ a := fun e => by
  subst e
  obtain ⟨es, cl, hb, _⟩ := hN
  rw [ha] at hb; cases hb
theorem own_ne {w : World} {base size n D : Nat} {e t : TypeId} {v : Value} {xs : List Value} {cs : Array Value} {fr : Nat × Nat} (h : w.ownsRow base e size v n xs) (hD : w.heap[D]? = some (.cells cs t fr)) (he : e ≠ t) (hv : v.ownBlock = some D) : False := by
  rcases h.2 with ⟨rfl, _⟩ | ⟨g, cap, cur, rfl, _, hg, _⟩
  · simp [Value.ownBlock] at hv
  · obtain rfl : g = D := by simpa [Value.ownBlock] using hv
    rw [hg] at hD
    simp at hD
    exact he hD.2.1

set_option maxRecDepth 100000 in
set_option maxHeartbeats 2000000 in
theorem create1 (w : World) (D B1 B2 base : Nat) (s : ByteArray) (q c st fl fe : Int) (vf : Value) (N L : Nat) (vt : Value) (fs : List Nat) (nn : Nat) (nm : DataW Unit) (tn : Nat) (tv : List Value)
    (hb1 : Boxed w B1 23 (.pointer (some ⟨D, 0, none⟩))) (hb2 : Boxed w B2 9 (.string s)) (hD : DiskIs w D q c st fl fe false vf N L vt)
    (hs : s.size ≤ maxLen) (hfs : w.ownsRow base 62 1 vf fs.length (fs.map fptr)) (hN : NamesAt w N nn nm) (ht : w.ownsRow base 66 4 vt tn tv) (hmiss : fileOf nm s.data.toList = .lit (.int .i64 (-1)))
    (hlen : Maps.size nm < 64) (hnn : nn ≤ 1000000) (hbase : base ≤ w.heap.size) (hfn : fs.length ≤ 100000) (htn : tn ≤ 100000) :
    Calls Try.prog 34 #[.pointer (some ⟨B1, 0, none⟩), .pointer (some ⟨B2, 0, none⟩)] w fun e w' => e = .returned (.int .i64 0) ∧ ∃ vf' vt', DiskIs w' D q c st fl fe false vf' N L vt' ∧ w'.ownsRow base 62 1 vf' (fs.length + 1) (fs.map fptr ++ [fptr w.heap.size]) ∧
      w'.ownsRow base 66 4 vt' (tn + 1) (tv ++ [.int .i64 0, .string s, .string ⟨#[]⟩, fptr w.heap.size]) ∧ NamesAt w' N (nn + 1) (nm.put (.string s.data.toList) (.lit (.int .i64 (w.heap.size : Nat)))) ∧
      w'.heap[w.heap.size]? = some (.cells #[.slice none 0 0, .int .i64 0] 64 (0, 0)) ∧ Keeps (D :: N :: (vf.ownBlock.toList ++ vt.ownBlock.toList)) w w' := by
  have k1 := hb1.cell
  have k2 := hb2.cell
  have c7 : w.cell? ⟨D, 7, none⟩ = some (.map (some N)) := hD.cell 7 _ rfl
  have hl : ∀ a, (Instr.lookup 56 (.map (some N)) (.string s) false).run Try.prog (w.drewN a) = .ok (.pointer none) (w.drewN a) := fun a => NamesAt.miss (w := w.drewN a) (b := N) (n := nn) (D := nm) hN s hs hmiss
  have hln : ∀ a, (Builtin.len_ #[56] 3 #[.map (some N)]).run Try.prog (w.drewN a) = .ok (.int .i64 (Maps.size nm : Nat)) (w.drewN a) := fun a => World.ownsMap.len (w := w.drewN a) hN Try.underlying56 3
  have HD := Lib.hid hD
  have HFS := Lib.hid hfs
  have HN := Lib.hid hN
  have HT := Lib.hid ht
  have hDl := hD.lt
  have hl1 := hb1.lt
  have hl2 := hb2.lt
  clear hD hfs hN ht hmiss
  generalize Maps.size nm = sz at *
  obtain ⟨j0, hj, hy0, hy1, hy2⟩ := info_parts info62
  go_enter Try.func34, Try.ntmps34
  go_wp2_with fail
  go_quiet (fail)
  go_wp2_with fail
  clear hl hln
  generalize hW1 : w.drewN _ = W1 at *
  obtain ⟨W, hW⟩ : ∃ W, W = W1.alloc (.cells #[.slice none 0 0, .int .i64 0] 64) := ⟨_, rfl⟩
  rw [← hW]
  have hWs : W.heap.size = w.heap.size + 1 := by rw [hW, ← hW1]; simp
  have HK : Hid (Keeps [] w W) := by rw [hW, ← hW1]; exact ((Keeps.refl [] w).drewN _).alloc _
  have HFi : Hid (W.heap[w.heap.size]? = some (.cells #[.slice none 0 0, .int .i64 0] 64 (0, 0))) := by rw [hW, ← hW1]; exact heap_alloc_new (w.drewN _) _
  have hDW := HK.out.disk HD.out (by simp)
  have HDW := Lib.hid hDW
  have HBW := Lib.hid (HK.out.boxed hb1 (by simp))
  have d1 := (HK.out.boxed hb1 (by simp)).cell
  have d2 := (HK.out.boxed hb2 (by simp)).cell
  have d6 : W.cell? ⟨D, 6, none⟩ = some vf := hDW.cell 6 _ rfl
  have fz6 := hDW.frozen 6
  have hfsW := HK.out.row HFS.out (by simp)
  have HFW := Lib.hid hfsW
  have hWl : w.heap.size < W.heap.size := by omega
  have HWs := Lib.hid hWs
  have HB2W := Lib.hid (HK.out.boxed hb2 (by simp))
  have HNX : Hid (N ∉ D :: vf.ownBlock.toList) := notin (map_ne HN.out HD.out) fun e => by obtain ⟨cs, hc⟩ := own_cells HFS.out e; exact map_ne HN.out hc rfl
  have HTX : Hid (∀ k, vt.ownBlock = some k → k ∉ D :: vf.ownBlock.toList) := fun k hk => notin (fun e => own_ne HT.out HD.out (by decide) (e ▸ hk)) fun e => by obtain ⟨cs, hc⟩ := own_cells HFS.out e; exact own_ne HT.out hc (by decide) hk
  have HBX : Hid (B1 ∉ D :: vf.ownBlock.toList) := notin (cells_ne hb1 HD.out (by decide)) fun e => own_ne HFS.out hb1 (by decide) e
  have HB2X : Hid (B2 ∉ D :: vf.ownBlock.toList) := notin (cells_ne hb2 HD.out (by decide)) fun e => own_ne HFS.out hb2 (by decide) e
  clear hWs hW hW1 k1 k2 c7 hb1 hb2 hDW hfsW
  have hl1W : B1 < W.heap.size := by omega
  have hDlW : D < W.heap.size := by omega
  have hbW : base ≤ W.heap.size := by omega
  have e1 : ∀ o, (W.alloc o).cell? ⟨B1, 0, none⟩ = some (.pointer (some ⟨D, 0, none⟩)) := fun o => by rw [World.cell?_alloc_past _ _ _ hl1W]; exact d1
  have e6 : ∀ o, (W.alloc o).cell? ⟨D, 6, none⟩ = some vf := fun o => by rw [World.cell?_alloc_past _ _ _ hDlW]; exact d6
  have z6 : ∀ o, (W.alloc o).frozen? ⟨D, 6, none⟩ = false := fun o => (HDW.out.alloc o).frozen 6
  have HDne : Hid (vf.ownBlock ≠ some D) := fun e => own_ne HFW.out HDW.out (by decide) e
  have HBne : Hid (vf.ownBlock ≠ some B1) := fun e => own_ne HFW.out HBW.out (by decide) e
  go_cut [] from 21 to 30 (fun wx => ∃ g cap, DiskIs wx D q c st fl fe false (.slice (some ⟨g, 0, none⟩) (fs.length + 1) cap) N L vt ∧ wx.ownsRow base 62 1 (.slice (some ⟨g, 0, none⟩) (fs.length + 1) cap) (fs.length + 1) (fs.map fptr ++ [fptr w.heap.size]) ∧ Keeps (D :: vf.ownBlock.toList) W wx ∧ (vf.ownBlock = some g ∨ g = W.heap.size + 1))
  case first =>
    go_region_law ((refine step_append_lies _ (by rfl) _ _ _ (by rfl) base 62 j0 _ 1 8 Try.underlying57 hj hy0 hy1 hy2 rfl (by omega) vf fs.length _ (by rfl) ((HFW.out.alloc _).drew) ⟨W.heap.size, 0, none⟩ 1 1 [fptr w.heap.size] (by rfl) (by rfl) (World.news_of_block (cs := #[fptr w.heap.size]) (t := 62) (fr := (0, 0)) (heap_alloc_new W _)) (by simp [Value.oneCell']) (by omega) (by unfold maxLen; omega) (by omega) (by first | (simp; omega) | (simp; done) | omega) (W.heap.size + 1) (by simp) ?_; intro gg cap w1 hown1 hgrow hat hlt; have hk6 : w1.cell? ⟨D, 6, none⟩ = some vf := (by rw [hgrow.cell_far _ (by simp; omega) HDne.out.symm]; exact e6 _); have hkB : w1.cell? ⟨B1, 0, none⟩ = some (.pointer (some ⟨D, 0, none⟩)) := (by rw [hgrow.cell_far _ (by simp; omega) HBne.out.symm]; exact e1 _); have hz6 : w1.frozen? ⟨D, 6, none⟩ = false := (by rw [hgrow.frozen_far _ (by simp; omega) HDne.out.symm]; exact z6 _)))
    all_goals
      go_wp2_with fail
      go_meet
      refine ⟨gg, cap, ?_, ?_, ?_, hat⟩
      · exact DiskIs.files (HDW.out.of_block ((hgrow.block D (by simp; omega) (fun e => HDne.out e.symm)).trans ((HDW.out.alloc _).trans HDW.out.symm))) _
      · exact ownsRow_set2' hown1 D 6 _ (fun e => own_ne hown1 (hgrow.block D (by simp; omega) (fun e => HDne.out e.symm) |>.trans (HDW.out.alloc _)) (by decide) e)
      · exact (((((Keeps.refl _ W).alloc _).drew).grown hgrow fun k hk _ => by rw [hk]; simp).setCell _ _ fun _ => by simp)
  case rest =>
  obtain ⟨g6, cap6, hD6, hf6, hk6, hat6⟩ := hcut
  have hN6 : NamesAt wc N nn nm := hk6.names (HK.out.names HN.out (by simp)) HNX.out
  have hT6 := hk6.row (HK.out.row HT.out (by simp)) HTX.out
  have h1 := (hk6.boxed HBW.out HBX.out)
  have h2 := (hk6.boxed HB2W.out HB2X.out)
  have e1 := h1.cell
  have e2 := h2.cell
  have e7 : wc.cell? ⟨D, 7, none⟩ = some (.map (some N)) := hD6.cell 7 _ rfl
  have HD6 := Lib.hid hD6
  have HF6 := Lib.hid hf6
  have HK6 := Lib.hid hk6
  have HN6 := Lib.hid hN6
  have HT6 := Lib.hid hT6
  have H16 := Lib.hid h1
  have H26 := Lib.hid h2
  have HS6 := Lib.hid hk6.size
  have hup := fun n => World.ownsMap.update (w := wc.drewN n) hN6 key9 Try.underlying56 (by unfold maxLen; omega) (WideMaps.keyOf_string_mk Try.underlying9 hs) (Rp_ptr w.heap.size)
  have HUP := Lib.hid hup
  clear hD6 hf6 hk6 hN6 hT6 h1 h2 hup
  go_wp2_with fail
  refine wp_region_tail 6 (by kernel_rfl) (by kernel_rfl) ?_
  simp only [List.take_succ_cons, List.take_zero, List.drop_succ_cons, List.drop_zero]
  repeat (go_big_quiet_step (fail))
  refine wpQuiet_nil ?_
  rintro _ ⟨nq7, rfl⟩
  obtain ⟨w7, hrun7, hn7, hg7⟩ := HUP.out nq7
  go_wp2_with fail
  have k7 : Keeps [N] wc w7 := ((Keeps.refl [N] wc).drewN nq7).grown hg7 fun k hk _ => by cases hk; simp
  have hND := map_ne HN6.out HD6.out
  have hD7 := k7.disk HD6.out (by simpa using hND.symm)
  have h17 := k7.boxed H16.out (by simpa using (map_ne HN6.out H16.out).symm)
  have h27 := k7.boxed H26.out (by simpa using (map_ne HN6.out H26.out).symm)
  have hF7 := k7.row HF6.out fun k hk => by obtain ⟨cs, hc⟩ := own_cells HF6.out hk; simpa using (map_ne HN6.out hc).symm
  have hT7 := k7.row HT6.out fun k hk => by obtain ⟨cs, hc⟩ := own_cells HT6.out hk; simpa using (map_ne HN6.out hc).symm
  have hs7 := k7.size
  have HS6' := HS6.out
  have hl17 := h17.lt
  have hl27 := h27.lt
  have hDl7 := hD7.lt
  have hbW7 : base ≤ w7.heap.size := by omega
  have c1 := h17.cell
  have c2 := h27.cell
  have c9 : w7.cell? ⟨D, 9, none⟩ = some vt := hD7.cell 9 _ rfl
  have a1 : ∀ o, (w7.alloc o).cell? ⟨B1, 0, none⟩ = some (.pointer (some ⟨D, 0, none⟩)) := fun o => by rw [World.cell?_alloc_past _ _ _ hl17]; exact c1
  have a2 : ∀ o, (w7.alloc o).cell? ⟨B2, 0, none⟩ = some (.string s) := fun o => by rw [World.cell?_alloc_past _ _ _ hl27]; exact c2
  have a9 : ∀ o, (w7.alloc o).cell? ⟨D, 9, none⟩ = some vt := fun o => by rw [World.cell?_alloc_past _ _ _ hDl7]; exact c9
  have z9 : ∀ o, (w7.alloc o).frozen? ⟨D, 9, none⟩ = false := fun o => (hD7.alloc o).frozen 9
  have HD7 := Lib.hid hD7
  have HF7 := Lib.hid hF7
  have HT7 := Lib.hid hT7
  have HN7 := Lib.hid hn7
  have HK7 := Lib.hid k7
  have HDne7 : Hid (vt.ownBlock ≠ some D) := fun e => own_ne hT7 hD7 (by decide) e
  have HBne7 : Hid (vt.ownBlock ≠ some B1) := fun e => own_ne hT7 h17 (by decide) e
  have HB2ne7 : Hid (vt.ownBlock ≠ some B2) := fun e => own_ne hT7 h27 (by decide) e
  have hNl7 := World.ownsMap.lt hn7
  obtain ⟨t0, ht0, hu0, hu1, hu2⟩ := info_parts info66
  have hF6 : wc.heap[w.heap.size]? = some (.cells #[.slice none 0 0, .int .i64 0] 64 (0, 0)) := (HK6.out.block _ hWl (notin (cells_ne HFi.out HDW.out (by decide)) fun e => own_ne HFW.out HFi.out (by decide) e)).trans HFi.out
  have hwl6 : w.heap.size < wc.heap.size := (Array.getElem?_eq_some_iff.1 hF6).1
  have hF7' : w7.heap[w.heap.size]? = some (.cells #[.slice none 0 0, .int .i64 0] 64 (0, 0)) := (HK7.out.block _ hwl6 (by simpa using (map_ne HN6.out hF6).symm)).trans hF6
  have hwl7 : w.heap.size < w7.heap.size := (Array.getElem?_eq_some_iff.1 hF7').1
  have HF7' := Lib.hid hF7'
  have HNall := Lib.hid (fun (cs : Array Value) (a : Nat) (t : TypeId) (h : w7.heap[a]? = some (.cells cs t (0, 0))) => map_ne hn7 h)
  have x1 : Hid (Keeps (D :: N :: (vf.ownBlock.toList ++ vt.ownBlock.toList)) w w7) := by
    have y1 := HK.out.mono (Y := D :: N :: (vf.ownBlock.toList ++ vt.ownBlock.toList)) (by simp)
    have y2 := HK6.out.mono (Y := D :: N :: (vf.ownBlock.toList ++ vt.ownBlock.toList)) sub_left
    have y3 := HK7.out.mono (Y := D :: N :: (vf.ownBlock.toList ++ vt.ownBlock.toList)) (by intro x hx; obtain rfl := List.mem_singleton.1 hx; exact List.mem_cons_of_mem _ (List.mem_cons_self ..))
    exact (y1.trans y2).trans y3
  clear hF6 hF7'
  clear hD7 hF7 hT7 hn7 k7 hg7 hrun7 HUP h17 h27 HS6'
  go_cut [] from 37 to 48 (fun wx => ∃ g cap, DiskIs wx D q c st fl fe false (.slice (some ⟨g6, 0, none⟩) (fs.length + 1) cap6) N L (.slice (some ⟨g, 0, none⟩) (tn + 1) cap) ∧ wx.ownsRow base 66 4 (.slice (some ⟨g, 0, none⟩) (tn + 1) cap) (tn + 1) (tv ++ [.int .i64 0, .string s, .string ⟨#[]⟩, fptr w.heap.size]) ∧ Keeps (D :: vt.ownBlock.toList) w7 wx)
  case first =>
    go_region_law ((refine step_append_lies _ (by rfl) _ _ _ (by rfl) base 66 t0 _ 4 48 Try.underlying58 ht0 hu0 hu1 hu2 rfl (by omega) vt tn _ (by rfl) ((HT7.out.alloc _).drew) ⟨w7.heap.size, 0, none⟩ 1 1 [.int .i64 0, .string s, .string ⟨#[]⟩, fptr w.heap.size] (by rfl) (by rfl) (World.news_of_block (cs := #[.int .i64 0, .string s, .string ⟨#[]⟩, fptr w.heap.size]) (t := 66) (fr := (0, 0)) (heap_alloc_new w7 _)) (by simp [Value.oneCell']) (by omega) (by unfold maxLen; omega) (by omega) (by first | (simp; omega) | (simp; done) | omega) (w7.heap.size + 1) (by simp) ?_; intro gg cap w8 hown1 hgrow hat hlt; have hk9 : w8.cell? ⟨D, 9, none⟩ = some vt := (by rw [hgrow.cell_far _ (by simp; omega) HDne7.out.symm]; exact a9 _); have hkB : w8.cell? ⟨B1, 0, none⟩ = some (.pointer (some ⟨D, 0, none⟩)) := (by rw [hgrow.cell_far _ (by simp; omega) HBne7.out.symm]; exact a1 _); have hz9 : w8.frozen? ⟨D, 9, none⟩ = false := (by rw [hgrow.frozen_far _ (by simp; omega) HDne7.out.symm]; exact z9 _)))
    all_goals
      go_wp2_with fail
      go_meet
      refine ⟨gg, cap, ?_, ?_, ?_⟩
      · exact DiskIs.turns (HD7.out.of_block ((hgrow.block D (by simp; omega) (fun e => HDne7.out e.symm)).trans ((HD7.out.alloc _).trans HD7.out.symm))) _
      · exact ownsRow_set2' hown1 D 9 _ (fun e => own_ne hown1 (hgrow.block D (by simp; omega) (fun e => HDne7.out e.symm) |>.trans (HD7.out.alloc _)) (by decide) e)
      · exact (((((Keeps.refl _ w7).alloc _).drew).grown hgrow fun k hk _ => by rw [hk]; simp).setCell _ _ fun _ => by simp)
  case rest =>
  obtain ⟨g8, cap8, hD8, ht8, hk8⟩ := hcut
  have HD8 := Lib.hid hD8
  have HT8 := Lib.hid ht8
  have HK8 := Lib.hid hk8
  clear hD8 ht8 hk8
  go_wp2_with fail
  go_ret
  refine ⟨rfl, _, _, HD8.out, HK8.out.row HF7.out fun k hk => ?_, HT8.out, HK8.out.names HN7.out ?_, (HK8.out.block _ hwl7 ?_).trans HF7'.out, ?_⟩
  · obtain ⟨cs, hc⟩ := own_cells HF7.out hk
    exact notin (cells_ne hc HD7.out (by decide)) fun e => own_ne HT7.out hc (by decide) e
  · exact notin (map_ne HN7.out HD7.out) fun e => by obtain ⟨cs, hc⟩ := own_cells HT7.out e; exact map_ne HN7.out hc rfl
  · exact notin (cells_ne HF7'.out HD7.out (by decide)) fun e => own_ne HT7.out HF7'.out (by decide) e
  · exact x1.out.trans (HK8.out.mono sub_right)
end Go.Proofs.Ytebkgkaihjoamaa
