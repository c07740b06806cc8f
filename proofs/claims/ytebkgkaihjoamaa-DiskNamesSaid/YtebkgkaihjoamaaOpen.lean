/- The contract of disk.Disk's open. -/
import Derived.Test.YtebkgkaihjoamaaSyncD
namespace Go.Proofs.Ytebkgkaihjoamaa
open Go.RowKit Go.Proofs

theorem Keeps.set {X : List Nat} {w w' : World} {M : Nat} {C : List Nat} (k : Keeps X w w') (h : SetAt w M C) (hx : M ∉ X) : SetAt w' M C := h.of_block (k.block M h.lt hx)
theorem Turn.cells_length (t : Turn) : t.cells.length = 4 := by cases t <;> rfl
theorem turn_cell : ∀ {ts : List Turn} {i : Nat} {t : Turn}, ts[i]? = some t → ∀ (j : Nat), j < 4 → (ts.flatMap Turn.cells)[4 * i + j]? = t.cells[j]?
  | [], i, t, h, _, _ => by simp at h
  | a :: ts, 0, t, h, j, hj => by
    obtain rfl : a = t := by simpa using h
    rw [List.flatMap_cons, List.getElem?_append_left (by rw [Turn.cells_length]; omega), Nat.mul_zero, Nat.zero_add]
  | a :: ts, i + 1, t, h, j, hj => by
    have h' : ts[i]? = some t := by simpa using h
    rw [List.flatMap_cons, List.getElem?_append_right (by rw [Turn.cells_length]; omega), Turn.cells_length, show 4 * (i + 1) + j - 4 = 4 * i + j by omega]
    exact turn_cell h' j hj
theorem pair_in {es : List (Lit × DataW Unit)} (hpw : es.Pairwise fun a b => a.1 ≠ b.1) (p : Lit × DataW Unit) (hp : p ∈ es) (q : Lit × DataW Unit) (hq : q ∈ es) (hs : p.1.sameKey q.1 = true) : p = q := by
  have h1 := WideAt.sameKey_eq hs
  rcases List.mem_iff_getElem?.1 hp with ⟨i, hi⟩
  rcases List.mem_iff_getElem?.1 hq with ⟨j, hj⟩
  have hpw' := List.pairwise_iff_getElem.1 hpw
  obtain ⟨hi1, hi2⟩ := List.getElem?_eq_some_iff.1 hi
  obtain ⟨hj1, hj2⟩ := List.getElem?_eq_some_iff.1 hj
  rcases Nat.lt_trichotomy i j with hl | hl | hl
  · exact absurd (by rw [hi2, hj2]; exact h1) (hpw' i j hi1 hj1 hl)
  · subst hl; rw [hi2] at hj2; exact hj2
  · exact absurd (by rw [hi2, hj2]; exact h1.symm) (hpw' j i hj1 hi1 hl)
theorem has_in {es : List (Lit × DataW Unit)} (hkl : ∀ p ∈ es, WideAt.IsKeyLit p.1) {p : Lit × DataW Unit} (hp : p ∈ es) : Maps.has (.map es) p.1 = true := by
  rw [Maps.has_eq, List.any_eq_true.2 ⟨p, hp, WideAt.sameKey_self (hkl p hp)⟩]
theorem DX.isCells {base D : Nat} {w : World} {S : St} (h : DX base w D S) {f : Nat} (hf : f ∈ S.fs) : IsCells w f := by
  obtain ⟨v, h1, _⟩ := h.cells hf
  exact ⟨_, _, h1⟩
theorem IsCells.keep {X : List Nat} {w w' : World} {f : Nat} (h : IsCells w f) (k : Keeps X w w') (hx : f ∉ X) : IsCells w' f := by
  obtain ⟨c, t, h⟩ := h
  exact ⟨c, t, (k.block f (Array.getElem?_eq_some_iff.1 h).1 hx).trans h⟩

set_option maxRecDepth 100000 in
set_option maxHeartbeats 2000000 in
theorem open_any {base D : Nat} {w : World} {S : St} (h : DX base w D S) :
    Calls Try.prog 37 #[.pointer (some ⟨D, 0, none⟩)] w fun e w' => ∃ B1 B3 M C, e = .returned (.func (.func 54) #[] #[.pointer (some ⟨B1, 0, none⟩), .pointer (some ⟨B3, 0, none⟩)]) ∧ w.heap.size ≤ B1 ∧ w.heap.size ≤ B3 ∧ w.heap.size ≤ M ∧ Boxed w' B1 23 (.pointer (some ⟨D, 0, none⟩)) ∧ Boxed w' B3 72 (.map (some M)) ∧
      SetAt w' M C ∧ (∀ g ∈ C, g ∈ S.fs) ∧ (∀ es, S.nm = .map es → ∀ p ∈ es, ∀ f, p.2 = litF f → f ∈ C) ∧ Keeps [] w w' := by
  have hmk : ∀ W : World, (Instr.makeMap 72 none).run Try.prog W = .ok (.map (some W.heap.size)) (W.alloc (.map #[] 0)) := fun _ => rfl
  obtain ⟨vf, N, L, vt, nn, nl, vb, h1⟩ := h.at_
  have hDl := h1.d.lt
  have b1 := ((Boxed.new w 23 (.pointer (some ⟨D, 0, none⟩))).alloc (.map #[] 0)).alloc (.cells #[.map (some (w.heap.size + 1))] 72)
  have b3 := Boxed.new ((w.alloc (.cells #[.pointer (some ⟨D, 0, none⟩)] 23)).alloc (.map #[] 0)) 72 (.map (some (w.heap.size + 1)))
  have hset := SetAt.made (w.alloc (.cells #[.pointer (some ⟨D, 0, none⟩)] 23))
  simp only [World.size_alloc] at b3 hset
  have k0 : Keeps [] w (((w.alloc (.cells #[.pointer (some ⟨D, 0, none⟩)] 23)).alloc (.map #[] 0)).alloc (.cells #[.map (some (w.heap.size + 1))] 72)) := (((Keeps.refl [] w).alloc _).alloc _).alloc _
  have hset0 : SetAt (((w.alloc (.cells #[.pointer (some ⟨D, 0, none⟩)] 23)).alloc (.map #[] 0)).alloc (.cells #[.map (some (w.heap.size + 1))] 72)) (w.heap.size + 1) [] := hset.of_block (Below.heap_alloc _ _ _ hset.lt)
  clear hset
  go_enter Try.func37, Try.ntmps37
  go_wp2_with fail
  generalize (((w.alloc (.cells #[.pointer (some ⟨D, 0, none⟩)] 23)).alloc (.map #[] 0)).alloc (.cells #[.map (some (w.heap.size + 1))] 72)) = W at *
  have hX := h.keep k0
  have h1d := k0.disk h1.d (by simp)
  have HND := Lib.hid (k0.names h1.n (by simp))
  have HLD := Lib.hid (k0.names h1.l (by simp))
  have HT := Lib.hid (k0.row h1.rt (by simp))
  have HDd := Lib.hid h1d
  have c7 : W.cell? ⟨D, 7, none⟩ = some (.map (some N)) := h1d.cell 7 _ rfl
  have c8 : W.cell? ⟨D, 8, none⟩ = some (.map (some L)) := h1d.cell 8 _ rfl
  have hc1 := b1.cell
  have hc3 := b3.cell
  have HS0 := Lib.hid hset0
  have HB1 := Lib.hid b1
  have HB3 := Lib.hid b3
  have HX := Lib.hid hX
  have HK0 := Lib.hid k0
  clear hset0 b1 b3 hX k0 h1d
  go_quiet (fail)
  go_wp2_with fail
  clear c7 c8 hc1
  have hk2 : Keeps [] W (W.drewN nq) := (Keeps.refl [] W).drewN _
  have HXs := Lib.hid (fun g (hg : g ∈ S.fs) => HX.out.isCells hg)
  have HXlt := Lib.hid (fun g (hg : g ∈ S.fs) => by obtain ⟨v, h1, _⟩ := h.cells hg; exact (Array.getElem?_eq_some_iff.1 h1).1)
  have hI0 : ∀ W : World, (Instr.index 86 (.agg #[.map (some N), .map (some L)]) (.int .i64 0)).run Try.prog W = .ok (.map (some N)) W := fun _ => by kernel_rfl
  have hI1 : ∀ W : World, (Instr.index 86 (.agg #[.map (some N), .map (some L)]) (.int .i64 1)).run Try.prog W = .ok (.map (some L)) W := fun _ => by kernel_rfl
  have hNne : N ≠ w.heap.size + 1 := by have := World.ownsMap.lt h1.n; omega
  have hLne : L ≠ w.heap.size + 1 := by have := World.ownsMap.lt h1.l; omega
  go_loopw [20] (fun u wr => ∃ (i : Nat) (C : List Nat), i ≤ 2 ∧ u = .int .i64 i ∧ Keeps [w.heap.size + 1] W wr ∧ SetAt wr (w.heap.size + 1) C ∧ (∀ g ∈ C, g ∈ S.fs) ∧ (1 ≤ i → ∀ es, S.nm = .map es → ∀ p ∈ es, ∀ f, p.2 = litF f → f ∈ C)) (fun i _ => 2 - (intOf i).toNat)
  case atStart => exact ⟨0, [], by omega, rfl, hk2.mono (by simp), hk2.set HS0.out (by simp), by simp, by omega⟩
  case round =>
    obtain ⟨i, C, hi, rfl, hkr, hset, hC, hnm⟩ := hrel
    rcases (by omega : i = 0 ∨ i = 1 ∨ i = 2) with rfl | rfl | rfl
    · rw [show ((0 : Nat) : Int) = 0 from rfl]
      have HXM := Lib.hid (hkr.names HND.out (by simpa using hNne))
      obtain ⟨es, he, hpw, hkl⟩ := World.ownsMap.entries HXM.out key9
      obtain ⟨hl1, hl2⟩ : (∀ p ∈ es, ∃ f ∈ S.fs, p.2 = litF f) ∧ True := ⟨by obtain ⟨es', e1, e2⟩ := h.vn; rw [he] at e1; cases e1; exact e2, trivial⟩
      have HLE := Lib.hid hl1
      have HPW := Lib.hid (pair_in hpw)
      have HKL := Lib.hid hkl
      have HHas := Lib.hid (fun p (hp : p ∈ es) => has_in hkl hp)
      have HE := Lib.hid he
      have HNm := Lib.hid hnm
      rw [he] at HXM
      clear hl1 hl2 hpw hkl he hnm
      have HSr := Lib.hid hset
      have HKr := Lib.hid hkr
      have HCr := Lib.hid hC
      have hMl := hset.lt
      clear hset hkr hC
      generalize wr = Wo at *
      go_wp2_with (first | (at_range; refine wpList_range_own _ rfl _ 56 rfl 9 62 key9 Try.underlying56 Rp N nn (.map es) rfl HXM.out ?_; intro w0 hrg0 hg0 hs0))
      have hk00 : Keeps [] Wo w0 := (Keeps.refl _ Wo).grown hg0 (fun _ e => by cases e)
      have HK00 := Lib.hid hk00
      have HS00 := Lib.hid (hk00.set HSr.out (by simp))
      clear hk00 hg0
      go_frame
      go_loopw [] (fun wr => ∃ left cnt Cx, wr.ranges Try.prog 9 Rp N Wo.heap.size nn (.map es) left cnt ∧ SetAt wr (w.heap.size + 1) Cx ∧ (∀ g ∈ Cx, g ∈ S.fs) ∧ (∀ g ∈ C, g ∈ Cx) ∧ (∀ p ∈ es, left p.1 = false → ∀ f, p.2 = litF f → f ∈ Cx) ∧ Keeps [w.heap.size + 1] Wo wr) (fun wr => wr.rangeLeft N Wo.heap.size)
      case atStart => exact ⟨_, _, C, hrg0, HS00.out, HCr.out, fun _ h => h, (fun p hp hl => by rw [HHas.out p hp] at hl; cases hl), HK00.out.mono (by simp)⟩
      case round =>
        obtain ⟨left, cnt, Cx, hrg, hs, hcx, hcc, hvis, hk⟩ := hrel
        have HRG := Lib.hid hrg
        have HS := Lib.hid hs
        have HCx := Lib.hid hcx
        have HCc := Lib.hid hcc
        have HV := Lib.hid hvis
        have HKi := Lib.hid hk
        clear hrg hs hcx hcc hvis hk
        go_wp2_with (first | (at_next; refine wpList_next_ranges wr rfl _ rfl 9 key9 Rp Value.string mkV mkK_inv mkV_inv N Wo.heap.size nn (.map es) left cnt rfl HRG.out ?_ ?_))
        · intro hc0 hl0
          have HL0 := Lib.hid hl0
          clear hl0
          go_wp2
          go_roundw
          case rel => exact ⟨0 + 1, Cx, by omega, by rfl, HKr.out.trans HKi.out, HS.out, HCx.out, fun _ es0 e0 p hp f hpf => by rw [HE.out] at e0; cases e0; exact HV.out p hp (HL0.out p.1) f hpf⟩
          case measure => simp [intOf]
        · intro x cv kl y ps w' cnt' hkey hlk hRv hat hrg' hlt hgr hsz hen
          have hmem := entry_in es kl y hat
          obtain ⟨f, hf, hy⟩ := HLE.out _ hmem
          simp only at hy
          obtain rfl : cv = some f := by
            cases cv with
            | none => rw [show Rp (mkV none) = some (.lit (.int .i64 (-1)), []) from rfl] at hRv; cases hRv; simp at hy
            | some g => rw [show Rp (mkV (some g)) = some (.lit (.int .i64 (g : Nat)), []) from rfl] at hRv; cases hRv; simp at hy; congr 1; omega
          have hk2 : Keeps [w.heap.size + 1] Wo w' := HKi.out.grown hgr fun k e hk => by cases e; omega
          have hs2 : SetAt w' (w.heap.size + 1) Cx := HS.out.of_block (hgr.block _ HS.out.lt (by simp; omega))
          have hcells : ∀ g ∈ S.fs, IsCells w' g := fun g hg => ((HXs.out g hg).keep (HKr.out.trans hk2) (by simp; have := HXlt.out g hg; omega))
          obtain ⟨w3, hrun, hs3, hg3, hz3⟩ := hs2.put f (hcells f hf) (fun g hg => hcells g (HCx.out g hg))
          have hB3' := ((HKr.out.trans hk2).boxed HB3.out (by simp)).cell
          have hen' : (Instr.entry (.pointer (some ⟨Wo.heap.size, 0, none⟩))).run Try.prog w' = .ok (.tuple #[.string x, .pointer (some ⟨f, 0, none⟩)]) w' := hen
          have HRG3 : Hid (w3.ranges Try.prog 9 Rp N Wo.heap.size nn (.map es) (fun z => left z && !z.sameKey kl) cnt') := hrg'.kept hg3 (by simpa using hNne) (by first | (simp; done) | (simp; omega))
          have HM : Hid (w3.rangeLeft N Wo.heap.size < wr.rangeLeft N Wo.heap.size) := by rw [HRG3.out.left_eq, HRG.out.left_eq]; exact hlt
          have HS3 := Lib.hid hs3
          have HK3 : Hid (Keeps [w.heap.size + 1] Wo w3) := hk2.grown hg3 (fun k e hk => by cases e; simp)
          have HY := Lib.hid hy
          have HMem := Lib.hid hmem
          rw [show mkV (some f) = .pointer (some ⟨f, 0, none⟩) from rfl]
          clear hgr hat hkey hRv hrg' hen hs2 hk2 hcells hs3 hg3 hz3 hy hmem
          go_wp2
          go_roundw
          case rel =>
            refine ⟨_, _, _, HRG3.out, HS3.out, ?_, ?_, ?_, HK3.out⟩
            · intro g hg
              split at hg
              · exact HCx.out g hg
              · rcases List.mem_append.1 hg with hg | hg
                · exact HCx.out g hg
                · obtain rfl := List.mem_singleton.1 hg; exact hf
            · intro g hg
              split
              · exact HCc.out g hg
              · exact List.mem_append_left _ (HCc.out g hg)
            · intro p hp hl g hpg
              have hin : f ∈ (if f ∈ Cx then Cx else Cx ++ [f]) := by split <;> simp_all
              have hsub : ∀ g ∈ Cx, g ∈ (if f ∈ Cx then Cx else Cx ++ [f]) := fun g hg => by split <;> simp_all
              cases hlp : left p.1
              · exact hsub g (HV.out p hp hlp g hpg)
              · rw [hlp] at hl
                have : p = (kl, y) := HPW.out p hp _ HMem.out (by simpa using hl)
                subst this
                simp only at hpg
                rw [HY.out] at hpg
                simp at hpg
                obtain rfl : f = g := by omega
                exact hin
          case measure => exact HM.out
    · rw [show ((1 : Nat) : Int) = 1 from rfl]
      have HXM := Lib.hid (hkr.names HLD.out (by simpa using hLne))
      obtain ⟨es, he, hpw, hkl⟩ := World.ownsMap.entries HXM.out key9
      obtain ⟨hl1, hl2⟩ : (∀ p ∈ es, ∃ f ∈ S.fs, p.2 = litF f) ∧ True := ⟨by obtain ⟨es', e1, e2⟩ := h.vl; rw [he] at e1; cases e1; exact e2, trivial⟩
      have HLE := Lib.hid hl1
      have HPW := Lib.hid (pair_in hpw)
      have HKL := Lib.hid hkl
      have HHas := Lib.hid (fun p (hp : p ∈ es) => has_in hkl hp)
      have HE := Lib.hid he
      have HNm := Lib.hid hnm
      rw [he] at HXM
      clear hl1 hl2 hpw hkl he hnm
      have HSr := Lib.hid hset
      have HKr := Lib.hid hkr
      have HCr := Lib.hid hC
      have hMl := hset.lt
      clear hset hkr hC
      generalize wr = Wo at *
      go_wp2_with (first | (at_range; refine wpList_range_own _ rfl _ 56 rfl 9 62 key9 Try.underlying56 Rp L nl (.map es) rfl HXM.out ?_; intro w0 hrg0 hg0 hs0))
      have hk00 : Keeps [] Wo w0 := (Keeps.refl _ Wo).grown hg0 (fun _ e => by cases e)
      have HK00 := Lib.hid hk00
      have HS00 := Lib.hid (hk00.set HSr.out (by simp))
      clear hk00 hg0
      go_frame
      go_loopw [] (fun wr => ∃ left cnt Cx, wr.ranges Try.prog 9 Rp L Wo.heap.size nl (.map es) left cnt ∧ SetAt wr (w.heap.size + 1) Cx ∧ (∀ g ∈ Cx, g ∈ S.fs) ∧ (∀ g ∈ C, g ∈ Cx) ∧ (∀ p ∈ es, left p.1 = false → ∀ f, p.2 = litF f → f ∈ Cx) ∧ Keeps [w.heap.size + 1] Wo wr) (fun wr => wr.rangeLeft L Wo.heap.size)
      case atStart => exact ⟨_, _, C, hrg0, HS00.out, HCr.out, fun _ h => h, (fun p hp hl => by rw [HHas.out p hp] at hl; cases hl), HK00.out.mono (by simp)⟩
      case round =>
        obtain ⟨left, cnt, Cx, hrg, hs, hcx, hcc, hvis, hk⟩ := hrel
        have HRG := Lib.hid hrg
        have HS := Lib.hid hs
        have HCx := Lib.hid hcx
        have HCc := Lib.hid hcc
        have HV := Lib.hid hvis
        have HKi := Lib.hid hk
        clear hrg hs hcx hcc hvis hk
        go_wp2_with (first | (at_next; refine wpList_next_ranges wr rfl _ rfl 9 key9 Rp Value.string mkV mkK_inv mkV_inv L Wo.heap.size nl (.map es) left cnt rfl HRG.out ?_ ?_))
        · intro hc0 hl0
          have HL0 := Lib.hid hl0
          clear hl0
          go_wp2
          go_roundw
          case rel => exact ⟨1 + 1, Cx, by omega, by rfl, HKr.out.trans HKi.out, HS.out, HCx.out, fun _ es0 e0 p hp f hpf => HCc.out f (HNm.out (Nat.le_refl _) es0 e0 p hp f hpf)⟩
          case measure => simp [intOf]
        · intro x cv kl y ps w' cnt' hkey hlk hRv hat hrg' hlt hgr hsz hen
          have hmem := entry_in es kl y hat
          obtain ⟨f, hf, hy⟩ := HLE.out _ hmem
          simp only at hy
          obtain rfl : cv = some f := by
            cases cv with
            | none => rw [show Rp (mkV none) = some (.lit (.int .i64 (-1)), []) from rfl] at hRv; cases hRv; simp at hy
            | some g => rw [show Rp (mkV (some g)) = some (.lit (.int .i64 (g : Nat)), []) from rfl] at hRv; cases hRv; simp at hy; congr 1; omega
          have hk2 : Keeps [w.heap.size + 1] Wo w' := HKi.out.grown hgr fun k e hk => by cases e; omega
          have hs2 : SetAt w' (w.heap.size + 1) Cx := HS.out.of_block (hgr.block _ HS.out.lt (by simp; omega))
          have hcells : ∀ g ∈ S.fs, IsCells w' g := fun g hg => ((HXs.out g hg).keep (HKr.out.trans hk2) (by simp; have := HXlt.out g hg; omega))
          obtain ⟨w3, hrun, hs3, hg3, hz3⟩ := hs2.put f (hcells f hf) (fun g hg => hcells g (HCx.out g hg))
          have hB3' := ((HKr.out.trans hk2).boxed HB3.out (by simp)).cell
          have hen' : (Instr.entry (.pointer (some ⟨Wo.heap.size, 0, none⟩))).run Try.prog w' = .ok (.tuple #[.string x, .pointer (some ⟨f, 0, none⟩)]) w' := hen
          have HRG3 : Hid (w3.ranges Try.prog 9 Rp L Wo.heap.size nl (.map es) (fun z => left z && !z.sameKey kl) cnt') := hrg'.kept hg3 (by simpa using hLne) (by first | (simp; done) | (simp; omega))
          have HM : Hid (w3.rangeLeft L Wo.heap.size < wr.rangeLeft L Wo.heap.size) := by rw [HRG3.out.left_eq, HRG.out.left_eq]; exact hlt
          have HS3 := Lib.hid hs3
          have HK3 : Hid (Keeps [w.heap.size + 1] Wo w3) := hk2.grown hg3 (fun k e hk => by cases e; simp)
          have HY := Lib.hid hy
          have HMem := Lib.hid hmem
          rw [show mkV (some f) = .pointer (some ⟨f, 0, none⟩) from rfl]
          clear hgr hat hkey hRv hrg' hen hs2 hk2 hcells hs3 hg3 hz3 hy hmem
          go_wp2
          go_roundw
          case rel =>
            refine ⟨_, _, _, HRG3.out, HS3.out, ?_, ?_, ?_, HK3.out⟩
            · intro g hg
              split at hg
              · exact HCx.out g hg
              · rcases List.mem_append.1 hg with hg | hg
                · exact HCx.out g hg
                · obtain rfl := List.mem_singleton.1 hg; exact hf
            · intro g hg
              split
              · exact HCc.out g hg
              · exact List.mem_append_left _ (HCc.out g hg)
            · intro p hp hl g hpg
              have hin : f ∈ (if f ∈ Cx then Cx else Cx ++ [f]) := by split <;> simp_all
              have hsub : ∀ g ∈ Cx, g ∈ (if f ∈ Cx then Cx else Cx ++ [f]) := fun g hg => by split <;> simp_all
              cases hlp : left p.1
              · exact hsub g (HV.out p hp hlp g hpg)
              · rw [hlp] at hl
                have : p = (kl, y) := HPW.out p hp _ HMem.out (by simpa using hl)
                subst this
                simp only at hpg
                rw [HY.out] at hpg
                simp at hpg
                obtain rfl : f = g := by omega
                exact hin
          case measure => exact HM.out
    · rw [show ((2 : Nat) : Int) = 2 from rfl]
      have hB1' := (hkr.boxed HB1.out (by simp)).cell
      have hD' := hkr.disk HDd.out (by simp; omega)
      have c9 : wr.cell? ⟨D, 9, none⟩ = some vt := hD'.cell 9 _ rfl
      have HT' := Lib.hid (hkr.row HT.out (fun k hk => by have := (h1.rt.lt k hk).2; simp; omega))
      obtain ⟨pt, ct, hvt⟩ := ownsRow_slice HT'.out
      subst hvt
      have HKr := Lib.hid hkr
      have HSr := Lib.hid hset
      have HCr := Lib.hid hC
      have HNm := Lib.hid (hnm (by omega))
      clear hkr hset hC hnm hD'
      generalize wr = Wo at *
      go_wp2_with fail
      go_loopw [37] (fun u wr => ∃ (i : Nat) (Cx : List Nat), i ≤ S.ts.length ∧ u = .int .i64 i ∧ Keeps [w.heap.size + 1] Wo wr ∧ SetAt wr (w.heap.size + 1) Cx ∧ (∀ g ∈ Cx, g ∈ S.fs) ∧ (∀ g ∈ C, g ∈ Cx)) (fun i _ => S.ts.length - (intOf i).toNat)
      case atStart => exact ⟨0, C, Nat.zero_le _, rfl, Keeps.refl _ _, HSr.out, HCr.out, fun _ h => h⟩
      case round =>
        obtain ⟨i, Cx, hi, rfl, hk, hs, hcx, hcc⟩ := hrel
        have hts : S.ts.length ≤ 4000 := by have := h.sl; have := h.sc; omega
        by_cases hlt : i < S.ts.length
        · obtain ⟨t, ht⟩ : ∃ t, S.ts[i]? = some t := ⟨S.ts[i], by simp [hlt]⟩
          rcases ownsRow_shape HT'.out with ⟨_, h0⟩ | ⟨g, ct', hq, hg, hgl⟩
          · omega
          simp at hq
          obtain ⟨rfl, rfl⟩ := hq
          have hgw := (h1.rt.lt g rfl).2
          have hcl : ∀ j u, (S.ts.flatMap Turn.cells)[j]? = some u → wr.cell? ⟨g, j, none⟩ = some u := fun j u hj => by
            have h1 := HT'.out.cells (g := g) rfl j u hj
            rw [show ((⟨g, 0, none⟩ : Addr).add j) = ⟨g, j, none⟩ from by cases j <;> simp [Addr.add]] at h1
            exact (World.cell?_of_block (hk.block g hgl (by simp; omega))).trans h1
          have ht0 := turn_cell ht 0 (by omega)
          have ht1 := turn_cell ht 1 (by omega)
          have ht2 := turn_cell ht 2 (by omega)
          have ht3 := turn_cell ht 3 (by omega)
          rw [Nat.mul_comm] at ht0 ht1 ht2 ht3
          rw [Nat.add_zero] at ht0
          have hok := h.vt t (List.mem_of_getElem? ht)
          have hs' := Lib.hid hs
          have HKi := Lib.hid hk
          have HCx := Lib.hid hcx
          have HCc := Lib.hid hcc
          clear hs hk hcx hcc
          cases t with
          | make s f =>
            have e0 := hcl _ _ ht0
            have e1 := hcl _ _ ht1
            have e2 := hcl _ _ ht2
            have e3 := hcl _ _ ht3
            have hff : f ∈ S.fs := hok.2 s f rfl
            have kA : Keeps [w.heap.size + 1] Wo (wr.alloc (.cells #[.int .i64 0, .string s, .string ⟨#[]⟩, .pointer (some ⟨f, 0, none⟩)] 66)) := HKi.out.alloc _
            have sA : SetAt (wr.alloc (.cells #[.int .i64 0, .string s, .string ⟨#[]⟩, .pointer (some ⟨f, 0, none⟩)] 66)) (w.heap.size + 1) Cx := hs'.out.of_block (Below.heap_alloc _ _ _ hs'.out.lt)
            have hcells : ∀ g ∈ S.fs, IsCells (wr.alloc (.cells #[.int .i64 0, .string s, .string ⟨#[]⟩, .pointer (some ⟨f, 0, none⟩)] 66)) g := fun g hg => ((HXs.out g hg).keep (HKr.out.trans kA) (by simp; have := HXlt.out g hg; omega))
            obtain ⟨w3, hrun, hs3, hg3, hz3⟩ := sA.put f (hcells f hff) (fun g hg => hcells g (HCx.out g hg))
            have hB3' := ((HKr.out.trans HKi.out).boxed HB3.out (by simp)).cell
            have hB3l := ((HKr.out.trans HKi.out).boxed HB3.out (by simp)).lt
            have HS3 := Lib.hid hs3
            have HK3 : Hid (Keeps [w.heap.size + 1] Wo w3) := kA.grown hg3 (fun k e hk => by cases e; simp)
            clear hs3 hg3 hz3 sA kA hcells
            go_wp2
            go_roundw
            case rel =>
              refine ⟨i + 1, _, by omega, by go_num, HK3.out, HS3.out, ?_, ?_⟩
              · intro g hg
                split at hg
                · exact HCx.out g hg
                · rcases List.mem_append.1 hg with hg | hg
                  · exact HCx.out g hg
                  · obtain rfl := List.mem_singleton.1 hg; exact hff
              · intro g hg
                split
                · exact HCc.out g hg
                · exact List.mem_append_left _ (HCc.out g hg)
            case measure => simp [intOf]; omega
          | move a b =>
            have e0 := hcl _ _ ht0
            have e1 := hcl _ _ ht1
            have e2 := hcl _ _ ht2
            have e3 := hcl _ _ ht3
            have HKA : Hid (Keeps [w.heap.size + 1] Wo (wr.alloc (.cells #[.int .i64 1, .string a, .string b, .pointer none] 66))) := HKi.out.alloc _
            have HSA : Hid (SetAt (wr.alloc (.cells #[.int .i64 1, .string a, .string b, .pointer none] 66)) (w.heap.size + 1) Cx) := hs'.out.of_block (Below.heap_alloc _ _ _ hs'.out.lt)
            go_wp2
            go_roundw
            case rel => exact ⟨i + 1, _, by omega, by go_num, HKA.out, HSA.out, HCx.out, HCc.out⟩
            case measure => simp [intOf]; omega
          | drop a =>
            have e0 := hcl _ _ ht0
            have e1 := hcl _ _ ht1
            have e2 := hcl _ _ ht2
            have e3 := hcl _ _ ht3
            have HKA : Hid (Keeps [w.heap.size + 1] Wo (wr.alloc (.cells #[.int .i64 2, .string a, .string ⟨#[]⟩, .pointer none] 66))) := HKi.out.alloc _
            have HSA : Hid (SetAt (wr.alloc (.cells #[.int .i64 2, .string a, .string ⟨#[]⟩, .pointer none] 66)) (w.heap.size + 1) Cx) := hs'.out.of_block (Below.heap_alloc _ _ _ hs'.out.lt)
            go_wp2
            go_roundw
            case rel => exact ⟨i + 1, _, by omega, by go_num, HKA.out, HSA.out, HCx.out, HCc.out⟩
            case measure => simp [intOf]; omega
        · have hs' := Lib.hid hs
          have HKi := Lib.hid hk
          have HCx := Lib.hid hcx
          have HCc := Lib.hid hcc
          clear hs hk hcx hcc
          have hkall := HKr.out.trans HKi.out
          have HKf : Hid (Keeps [] w wr) := ⟨hkall.os.trans HK0.out.os, hkall.tape.trans HK0.out.tape, hkall.output.trans HK0.out.output, Nat.le_trans HK0.out.size hkall.size, fun k hk _ => (hkall.block k (Nat.lt_of_lt_of_le hk HK0.out.size) (by simp; omega)).trans (HK0.out.block k hk (by simp))⟩
          have HBf1 := Lib.hid (hkall.boxed HB1.out (by simp))
          have HBf3 := Lib.hid (hkall.boxed HB3.out (by simp))
          clear hkall
          go_wp2_with fail
          go_ret
          exact ⟨_, _, _, Cx, rfl, Nat.le_refl _, by omega, by omega, HBf1.out, HBf3.out, hs'.out, HCx.out, fun es e p hp f hf => HCc.out f (HNm.out es e p hp f hf), HKf.out⟩
end Go.Proofs.Ytebkgkaihjoamaa
