/- Plain laws for Crash: a disk's state when files are cut or last, when names are others, when files are taken out. -/
import Derived.Test.YtebkgkaihjoamaaDel
import Derived.Test.YtebkgkaihjoamaaLead
import Derived.Test.YtebkgkaihjoamaaMakeX
namespace Go.Proofs.Ytebkgkaihjoamaa
open Go.RowKit Go.Proofs

/-- a slice of fewer elements -/
def trunc (v : Value) (k : Nat) : Value := match v with
  | .slice p _ c => .slice p k c
  | v => v
theorem trunc_row {w : World} {base n m : Nat} {e : TypeId} {v : Value} {xs : List Value} (h : w.ownsRow base e 1 v n xs) (hm : m ≤ n) : w.ownsRow base e 1 (trunc v m) m (xs.take m) ∧ (trunc v m).ownBlock = v.ownBlock := by
  rcases ownsRow_shape h with ⟨rfl, rfl⟩ | ⟨g, cap, rfl, _⟩
  · obtain rfl : m = 0 := by omega
    exact ⟨by simpa [trunc] using World.ownsRow_nil w base e 1, rfl⟩
  · exact ⟨ownsRow_take h hm, rfl⟩
/-- each file is cut to m bytes of which l last -/
def St.refile (S : St) (m l : Nat → Nat) : St := { S with con := fun f => ((S.con f).1.take (m f), l f) }
theorem DX.refile {base D B : Nat} {w W : World} {S : St} (h : DX base w D S) (hB : (∃ cs, w.heap[B]? = some (.cells cs 46 (0, 0))) ∨ w.heap.size ≤ B) (k : Keeps (B :: S.fs) w W) (m l : Nat → Nat)
    (hm : ∀ f ∈ S.fs, m f ≤ (S.con f).1.length ∧ l f ≤ m f ∧ ∀ p c, w.heap[f]? = some (.cells #[.slice p (S.con f).1.length c, .int .i64 (S.con f).2] 64 (0, 0)) → W.heap[f]? = some (.cells #[.slice p (m f) c, .int .i64 (l f : Nat)] 64 (0, 0))) : DX base W D (S.refile m l) := by
  obtain ⟨vf, N, L, vt, nn, nl, vb, h1⟩ := h.at_
  have hX : ∀ j cs t, w.heap[j]? = some (.cells cs t (0, 0)) → t ≠ 46 → t ≠ 64 → j ∉ B :: S.fs := fun j cs t hj h46 h64 hm => by
    rcases List.mem_cons.1 hm with rfl | hm
    · rcases hB with ⟨cs', hb⟩ | hb
      · exact cells_ne hj hb h46 rfl
      · have := (Array.getElem?_eq_some_iff.1 hj).1; omega
    · exact cells_ne hj (h1.f j hm).2.1 h64 rfl
  have hXr : ∀ {e : TypeId} {size n : Nat} {v : Value} {xs : List Value}, w.ownsRow base e size v n xs → e ≠ 46 → e ≠ 64 → ∀ j, v.ownBlock = some j → j ∉ B :: S.fs := fun hr e46 e64 j hj => by
    obtain ⟨cs, hc⟩ := own_cells hr hj
    exact hX j cs _ hc e46 e64
  have hXm : ∀ {Nx n : Nat} {Dx : DataW Unit}, NamesAt w Nx n Dx → Nx ∉ B :: S.fs := fun hn hm => by
    rcases List.mem_cons.1 hm with rfl | hm
    · rcases hB with ⟨cs', hb⟩ | hb
      · exact map_ne hn hb rfl
      · have := World.ownsMap.lt hn; omega
    · exact map_ne hn (h1.f _ hm).2.1 rfl
  refine { h with at_ := ⟨vf, N, L, vt, nn, nl, fun f => trunc (vb f) (m f), k.disk h1.d (hX D _ _ h1.d (by decide) (by decide)), k.row h1.rf (hXr h1.rf (by decide) (by decide)), k.row h1.rt (hXr h1.rt (by decide) (by decide)), k.names h1.n (hXm h1.n), k.names h1.l (hXm h1.l), h1.ne, h1.bD, h1.bN, h1.bL, Nat.le_trans h1.bw k.size, fun f hf => ?_, h1.nd, fun a ha b hb hab j hj => ?_⟩, bl := fun f hf => ?_ }
  · obtain ⟨a1, a2, a3⟩ := h1.f f hf
    have hlen : ((S.con f).1.map UInt8.toNat).length = (S.con f).1.length := by simp
    have a3' : w.ownsRow base 5 1 (vb f) (S.con f).1.length (byteV ((S.con f).1.map UInt8.toNat)) := by rw [← hlen]; exact a3
    obtain ⟨b1, b2, b3⟩ := hm f hf
    obtain ⟨t1, t2⟩ := trunc_row a3' b1
    obtain ⟨p, c, hv⟩ := ownsRow_slice a3'
    refine ⟨a1, ?_, ?_⟩
    · have := b3 p c (by rw [← hv]; exact a2)
      show W.heap[f]? = some (.cells #[trunc (vb f) (m f), .int .i64 (l f : Nat)] 64 (0, 0))
      rw [hv]
      exact this
    · show W.ownsRow base 5 1 (trunc (vb f) (m f)) (((S.con f).1.take (m f)).map UInt8.toNat).length (byteV (((S.con f).1.take (m f)).map UInt8.toNat))
      have e1 : (((S.con f).1.take (m f)).map UInt8.toNat).length = m f := by simp; omega
      have e2 : byteV (((S.con f).1.take (m f)).map UInt8.toNat) = (byteV ((S.con f).1.map UInt8.toNat)).take (m f) := by simp [byteV]
      rw [e1, e2]
      exact k.row t1 (fun j hj => hXr a3' (by decide) (by decide) j (by rw [← t2]; exact hj))
  · have key : ∀ f ∈ S.fs, (trunc (vb f) (m f)).ownBlock = (vb f).ownBlock := fun f hf => (trunc_row (m := m f) (h1.f f hf).2.2 (by have := (hm f hf).1; simpa using this)).2
    rw [key a ha] at hj
    rw [key b hb]
    exact h1.ap a ha b hb hab j hj
  · have := hm f hf
    have h3 := (h.bl f hf).2
    show l f ≤ ((S.con f).1.take (m f)).length ∧ ((S.con f).1.take (m f)).length ≤ 200000
    rw [List.length_take]
    omega
/-- names, and names that last, are others; nothing is stopped, failing or dead -/
def St.renewed (S : St) (now : DataW Unit) : St := { S with st := -1, fl := 0, dead := false, nm := now, ls := now, ts := [] }
theorem DX.renew {base D N' L' nn' nl' : Nat} {w W : World} {S : St} {now : DataW Unit} (h : DX base w D S) (k : Keeps [D] w W)
    (hd : ∀ vf N L vt, DiskIs w D S.q S.c S.st S.fl S.fe S.dead vf N L vt → DiskIs W D S.q S.c (-1) 0 S.fe false vf N' L' (.slice none 0 0)) (hn : NamesAt W N' nn' now) (hl : NamesAt W L' nl' now) (hne : N' ≠ L') (hN : base ≤ N') (hL : base ≤ L')
    (hlead : Leads now S.fs) (hsz : Maps.size now ≤ S.c) : DX base W D (S.renewed now) := by
  obtain ⟨vf, N, L, vt, nn, nl, vb, h1⟩ := h.at_
  refine ⟨⟨vf, N', L', .slice none 0 0, nn', nl', vb, ?_⟩, hlead, hlead, fun t ht => absurd ht (by simp [St.renewed]), h.bl, h.sf, hsz, by simpa [St.renewed] using hsz, h.sc⟩
  exact ⟨hd _ _ _ _ h1.d, k.row h1.rf fun j hj hm => own_ne h1.rf h1.d (by decide) (List.mem_singleton.1 hm ▸ hj), World.ownsRow_nil _ _ _ _, hn, hl, hne, h1.bD, hN, hL, Nat.le_trans h1.bw k.size,
    fun f hf => ⟨(h1.f f hf).1, (k.block f (Array.getElem?_eq_some_iff.1 (h1.f f hf).2.1).1 (by simpa using cells_ne (h1.f f hf).2.1 h1.d (by decide))).trans (h1.f f hf).2.1, k.row (h1.f f hf).2.2 fun j hj hm => own_ne (h1.f f hf).2.2 h1.d (by decide) (List.mem_singleton.1 hm ▸ hj)⟩, h1.nd, h1.ap⟩
/-- only the files of C stay -/
def St.kept (S : St) (C : List Nat) : St := { S with fs := stay C S.fs }
theorem stay_sub {C fs : List Nat} {f : Nat} (h : f ∈ stay C fs) : f ∈ fs ∧ f ∈ C := by
  unfold stay at h
  rw [List.mem_filter] at h
  exact ⟨h.1, by simpa using h.2⟩
/-- where the row of files lies -/
theorem DX.row {base D : Nat} {w : World} {S : St} (h : DX base w D S) : ∃ vf, w.cell? ⟨D, 6, none⟩ = some vf ∧ w.ownsRow base 62 1 vf S.fs.length (S.fs.map fptr) ∧ (∀ j, vf.ownBlock = some j → j ≠ D ∧ j ∉ S.fs) := by
  obtain ⟨vf, N, L, vt, nn, nl, vb, h1⟩ := h.at_
  exact ⟨vf, h1.d.cell 6 _ rfl, h1.rf, fun j hj => ⟨fun e => own_ne h1.rf h1.d (by decide) (e ▸ hj), fun hm => own_ne h1.rf (h1.f j hm).2.1 (by decide) hj⟩⟩
theorem DX.stay {base D : Nat} {w W : World} {S : St} (h : DX base w D S) (C : List Nat) {vf v' : Value} (hvf : w.cell? ⟨D, 6, none⟩ = some vf) (k : Keeps vf.ownBlock.toList w W) (hr : W.ownsRow base 62 1 v' (stay C S.fs).length ((stay C S.fs).map fptr)) (hv : v'.ownBlock = vf.ownBlock)
    (hn : ∀ es, S.nm = .map es → ∀ p ∈ es, ∀ f, p.2 = litF f → f ∈ C) (hl : ∀ es, S.ls = .map es → ∀ p ∈ es, ∀ f, p.2 = litF f → f ∈ C) (ht : S.ts = []) : DX base (W.setCell ⟨D, 6, none⟩ v') D (S.kept C) := by
  obtain ⟨vf', N, L, vt, nn, nl, vb, h1⟩ := h.at_
  obtain rfl : vf' = vf := by
    have := h1.d.cell 6 _ rfl
    rw [this] at hvf
    simpa using hvf
  have hX : ∀ j cs t, w.heap[j]? = some (.cells cs t (0, 0)) → t ≠ 62 → j ∉ vf'.ownBlock.toList := fun j cs t hj h62 hm => own_ne h1.rf hj (Ne.symm h62) (by simpa using hm)
  have hXr : ∀ {e : TypeId} {size n : Nat} {v : Value} {xs : List Value}, w.ownsRow base e size v n xs → e ≠ 62 → ∀ j, v.ownBlock = some j → j ∉ vf'.ownBlock.toList := fun hr e62 j hj => by
    obtain ⟨cs, hc⟩ := own_cells hr hj
    exact hX j cs _ hc e62
  have hXm : ∀ {Nx n : Nat} {Dx : DataW Unit}, NamesAt w Nx n Dx → Nx ∉ vf'.ownBlock.toList := fun hn hm => map_own_ne hn h1.rf (by simpa using hm)
  have hDW := k.disk h1.d (hX D _ _ h1.d (by decide))
  have k2 : Keeps [D] W (W.setCell ⟨D, 6, none⟩ v') := (Keeps.refl _ _).setCell _ _ fun _ => by simp
  have hrow2 : ∀ {e : TypeId} {size n : Nat} {v : Value} {xs : List Value}, W.ownsRow base e size v n xs → e ≠ 60 → (W.setCell ⟨D, 6, none⟩ v').ownsRow base e size v n xs := fun hr he => ownsRow_set2' hr D 6 _ fun e => own_ne hr hDW he e
  refine ⟨⟨v', N, L, vt, nn, nl, vb, hDW.files v', hrow2 hr (by decide), hrow2 (k.row h1.rt (hXr h1.rt (by decide))) (by decide), k2.names (k.names h1.n (hXm h1.n)) (by simpa using map_ne h1.n h1.d), k2.names (k.names h1.l (hXm h1.l)) (by simpa using map_ne h1.l h1.d), h1.ne, h1.bD, h1.bN, h1.bL, Nat.le_trans h1.bw (Nat.le_trans k.size k2.size),
    fun f hf => ?_, h1.nd.filter _, fun a ha b hb hab => h1.ap a (stay_sub ha).1 b (stay_sub hb).1 hab⟩, ?_, ?_, fun t h => ?_, fun f hf => h.bl f (stay_sub hf).1, ?_, h.sn, h.sl, h.sc⟩
  · obtain ⟨a1, a2, a3⟩ := h1.f f (stay_sub hf).1
    refine ⟨a1, ?_, hrow2 (k.row a3 (hXr a3 (by decide))) (by decide)⟩
    exact (k2.block f (by have := (Array.getElem?_eq_some_iff.1 a2).1; have := k.size; omega) (by simpa using cells_ne a2 h1.d (by decide))).trans ((k.block f (Array.getElem?_eq_some_iff.1 a2).1 (hX f _ _ a2 (by decide))).trans a2)
  · obtain ⟨es, he, hp⟩ := h.vn
    refine ⟨es, he, fun p hpp => ?_⟩
    obtain ⟨f, hf, e⟩ := hp p hpp
    exact ⟨f, List.mem_filter.2 ⟨hf, by simpa using hn es he p hpp f e⟩, e⟩
  · obtain ⟨es, he, hp⟩ := h.vl
    refine ⟨es, he, fun p hpp => ?_⟩
    obtain ⟨f, hf, e⟩ := hp p hpp
    exact ⟨f, List.mem_filter.2 ⟨hf, by simpa using hl es he p hpp f e⟩, e⟩
  · exact absurd (show t ∈ S.ts from h) (by rw [ht]; simp)
  · exact Nat.le_trans (List.length_filter_le _ _) h.sf

/-- names behind turns of which some are done: beyond the list all are -/
noncomputable def nowOf : List Turn → List Bool → DataW Unit → DataW Unit
  | [], _, D => D
  | t :: ts, [], D => nowOf ts [] (t.lead D)
  | t :: ts, b :: bs, D => nowOf ts bs (if b = true then t.lead D else D)
theorem nowOf_succ : ∀ {ts : List Turn} {i : Nat} {t : Turn} (bs : List Bool) (D : DataW Unit), ts[i]? = some t → nowOf (ts.take (i + 1)) bs D = if (bs[i]?).getD true = true then t.lead (nowOf (ts.take i) bs D) else nowOf (ts.take i) bs D
  | [], i, t, _, _, h => by simp at h
  | a :: ts, 0, t, bs, D, h => by
    obtain rfl : a = t := by simpa using h
    cases bs with
    | nil => simp [nowOf]
    | cons b bs => cases b <;> simp [nowOf]
  | a :: ts, i + 1, t, bs, D, h => by
    have h' : ts[i]? = some t := by simpa using h
    cases bs with
    | nil =>
      simp only [List.take_succ_cons, nowOf]
      rw [nowOf_succ [] _ h']
      simp
    | cons b bs =>
      simp only [List.take_succ_cons, nowOf]
      rw [nowOf_succ bs _ h']
      simp
end Go.Proofs.Ytebkgkaihjoamaa
