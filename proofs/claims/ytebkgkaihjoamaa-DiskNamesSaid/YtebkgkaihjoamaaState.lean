/- A disk's state in plain words, and where it lies. -/
import Derived.Test.YtebkgkaihjoamaaLead
import Derived.Test.YtebkgkaihjoamaaBytes
namespace Go.Proofs.Ytebkgkaihjoamaa
open Go.RowKit Go.Proofs Go.ChangeMaps

/-- a disk: its numbers, its files (blocks), names as they are and as they last, turns, each file's bytes and how many of them last -/
structure St where
  q : Int
  c : Nat
  st : Int
  fl : Int
  fe : Int
  dead : Bool
  fs : List Nat
  nm : DataW Unit
  ls : DataW Unit
  ts : List Turn
  con : Nat → List UInt8 × Nat
/-- names lead to files of fs alone -/
def Leads (D : DataW Unit) (fs : List Nat) : Prop := ∃ es, D = .map es ∧ ∀ p ∈ es, ∃ f ∈ fs, p.2 = litF f
theorem cellsOf_byteV (l : List UInt8) : byteV (l.map UInt8.toNat) = cellsOf l := by simp [byteV, cellsOf]
theorem cellsOf_one (l : List UInt8) : ∀ u ∈ cellsOf l, u.oneCell' = true := fun u hu => by
  obtain ⟨b, _, rfl⟩ := List.mem_map.1 hu
  rfl
/-- the disk's block D is the state S; all of it lies at or behind block base -/
structure DX (base : Nat) (w : World) (D : Nat) (S : St) : Prop where
  at_ : ∃ vf N L vt nn nl vb, DAt base w D S.q S.c S.st S.fl S.fe S.dead S.fs S.nm S.ls S.ts.length (S.ts.flatMap Turn.cells) (fun f => ((S.con f).1.map UInt8.toNat, (S.con f).2)) vf N L vt nn nl vb
  vn : Leads S.nm S.fs
  vl : Leads S.ls S.fs
  vt : ∀ t ∈ S.ts, t.ok ∧ ∀ s f, t = .make s f → f ∈ S.fs
  bl : ∀ f ∈ S.fs, (S.con f).2 ≤ (S.con f).1.length ∧ (S.con f).1.length ≤ 200000
  sf : S.fs.length ≤ S.c
  sn : Maps.size S.nm ≤ S.c
  sl : Maps.size S.ls + S.ts.length ≤ S.c
  sc : S.c ≤ 4000
/-- the sum over the files that names lead to -/
def sumD (D : DataW Unit) (len : Nat → Nat) : Nat := match D with
  | .map es => sumLeft es (fun _ => true) (lenD len)
  | _ => 0
/-- the bytes of all files that have names -/
def St.used (S : St) : Nat := sumD S.nm fun f => (S.con f).1.length
/-- neither stopping, failing nor dead -/
structure St.Plain (S : St) : Prop where
  dead : S.dead = false
  fl : S.fl = 0
  st : S.st ≤ 0

theorem NamesAt.tight {w : World} {N n : Nat} {D : DataW Unit} (h : NamesAt w N n D) : NamesAt w N (Maps.size D) D := by
  obtain ⟨es, clock, hb, F, hs, rfl⟩ := h
  refine ⟨es, clock, hb, F, ?_, rfl⟩
  simp [Maps.size, length_sorted]
theorem DX.keep {base D : Nat} {w w' : World} {S : St} (h : DX base w D S) (k : Keeps [] w w') : DX base w' D S := by
  obtain ⟨vf, N, L, vt, nn, nl, vb, h1⟩ := h.at_
  exact { h with at_ := ⟨vf, N, L, vt, nn, nl, vb, h1.keep k⟩ }
theorem Leads.file {D : DataW Unit} {fs : List Nat} (h : Leads D fs) {s : List UInt8} {f : Nat} (hf : fileOf D s = litF f) : f ∈ fs := by
  obtain ⟨es, rfl, h⟩ := h
  unfold fileOf DataW.atKey at hf
  simp only at hf
  cases hx : es.find? (fun p => p.1.sameKey (.string s)) with
  | none => rw [hx] at hf; simp at hf
  | some p =>
    rw [hx] at hf
    obtain ⟨g, hg, h2⟩ := h p (List.mem_of_find?_eq_some hx)
    simp only at hf
    rw [h2] at hf
    simp at hf
    obtain rfl : g = f := by omega
    exact hg
theorem Leads.mono {D : DataW Unit} {fs gs : List Nat} (h : Leads D fs) (hs : ∀ f ∈ fs, f ∈ gs) : Leads D gs := by
  obtain ⟨es, rfl, h⟩ := h
  exact ⟨es, rfl, fun p hp => by obtain ⟨f, hf, e⟩ := h p hp; exact ⟨f, hs f hf, e⟩⟩

/-- one file turns: its cells, and its row, which grows or lies anew -/
theorem DAt.file {base D tn nn nl N L : Nat} {w w' : World} {q c st fl fe : Int} {dead : Bool} {fs : List Nat} {nm ls : DataW Unit} {tv : List Value} {con : Nat → List Nat × Nat} {vf vt : Value} {vb : Nat → Value}
    (h : DAt base w D q c st fl fe dead fs nm ls tn tv con vf N L vt nn nl vb) {f : Nat} (hf : f ∈ fs) (k : Keeps (f :: (vb f).ownBlock.toList) w w') (v' : Value) (last' : Nat) (bytes' : List Nat)
    (hb : w'.heap[f]? = some (.cells #[v', .int .i64 last'] 64 (0, 0))) (hv : w'.ownsRow base 5 1 v' bytes'.length (byteV bytes')) (hat : v'.ownBlock = (vb f).ownBlock ∨ ∃ g, v'.ownBlock = some g ∧ w.heap.size ≤ g) :
    DAt base w' D q c st fl fe dead fs nm ls tn tv (fun g => if g = f then (bytes', last') else con g) vf N L vt nn nl (fun g => if g = f then v' else vb g) := by
  obtain ⟨f1, f2, f3⟩ := h.f f hf
  have hX : ∀ j, j ≠ f → (vb f).ownBlock ≠ some j → j ∉ f :: (vb f).ownBlock.toList := fun j a b => notin a b
  have hown : ∀ {e : TypeId} {size n : Nat} {v : Value} {xs : List Value}, w.ownsRow base e size v n xs → e ≠ 5 → e ≠ 64 → ∀ j, v.ownBlock = some j → j ∉ f :: (vb f).ownBlock.toList := fun hr e5 e64 j hj =>
    hX j (fun e => own_ne hr f2 e64 (e ▸ hj)) (own_own_ne hr f3 e5 hj)
  refine ⟨k.disk h.d (hX D (cells_ne h.d f2 (by decide)) fun e => own_ne f3 h.d (by decide) e), k.row h.rf (hown h.rf (by decide) (by decide)), k.row h.rt (hown h.rt (by decide) (by decide)),
    k.names h.n (hX N (map_ne h.n f2) (map_own_ne h.n f3)), k.names h.l (hX L (map_ne h.l f2) (map_own_ne h.l f3)), h.ne, h.bD, h.bN, h.bL, Nat.le_trans h.bw k.size, fun g hg => ?_, h.nd, ?_⟩
  · by_cases e : g = f
    · subst e
      simp only [if_true]
      exact ⟨f1, hb, hv⟩
    · rw [if_neg e, if_neg e]
      obtain ⟨g1, g2, g3⟩ := h.f g hg
      exact ⟨g1, (k.block g (Array.getElem?_eq_some_iff.1 g2).1 (hX g e fun e2 => own_ne f3 g2 (by decide) e2)).trans g2, k.row g3 fun j hj => hX j (fun e2 => own_ne g3 f2 (by decide) (e2 ▸ hj)) fun e2 => h.ap g hg f hf e j hj e2⟩
  · intro a ha b hb' hab j hj
    by_cases ea : a = f
    · subst ea
      rw [if_pos rfl] at hj
      rw [if_neg (Ne.symm hab)]
      rcases hat with e | ⟨g, e, hg⟩
      · exact h.ap a ha b hb' hab j (e ▸ hj)
      · intro h2
        have := ((h.f b hb').2.2.lt j h2).2
        rw [e] at hj
        simp at hj
        omega
    · rw [if_neg ea] at hj
      by_cases eb : b = f
      · subst eb
        rw [if_pos rfl]
        rcases hat with e | ⟨g, e, hg⟩
        · rw [e]; exact h.ap a ha b hb' hab j hj
        · intro h2
          have := ((h.f a ha).2.2.lt j hj).2
          rw [e] at h2
          simp at h2
          omega
      · rw [if_neg eb]
        exact h.ap a ha b hb' hab j hj

/-- the state in which a file's bytes, and how many of them last, are others -/
def St.file (S : St) (f : Nat) (b : List UInt8) (last : Nat) : St := { S with con := fun g => if g = f then (b, last) else S.con g }
theorem DX.file {base D : Nat} {w w' : World} {S : St} (h : DX base w D S) {f : Nat} (hf : f ∈ S.fs) (v v' : Value) (b' : List UInt8) (last' : Nat)
    (hv0 : ∃ l, w.heap[f]? = some (.cells #[v, .int .i64 l] 64 (0, 0))) (k : Keeps (f :: v.ownBlock.toList) w w')
    (hb : w'.heap[f]? = some (.cells #[v', .int .i64 last'] 64 (0, 0))) (hv : w'.ownsRow base 5 1 v' b'.length (cellsOf b')) (hat : v'.ownBlock = v.ownBlock ∨ ∃ g, v'.ownBlock = some g ∧ w.heap.size ≤ g) (hl : last' ≤ b'.length) (hlen : b'.length ≤ 200000) :
    DX base w' D (S.file f b' last') := by
  obtain ⟨vf, N, L, vt, nn, nl, vb, h1⟩ := h.at_
  obtain rfl : v = vb f := by
    obtain ⟨l, h2⟩ := hv0
    have := (h1.f f hf).2.1
    rw [h2] at this
    simp at this
    exact this.1
  have h3 := h1.file hf k v' last' (b'.map UInt8.toNat) hb (by rw [cellsOf_byteV, List.length_map]; exact hv) hat
  have e : (fun g => if g = f then (b'.map UInt8.toNat, last') else ((S.con g).1.map UInt8.toNat, (S.con g).2)) = fun g => (((S.file f b' last').con g).1.map UInt8.toNat, ((S.file f b' last').con g).2) := by
    funext g
    unfold St.file
    simp only
    split <;> rfl
  rw [e] at h3
  refine { h with at_ := ⟨vf, N, L, vt, nn, nl, _, h3⟩, bl := fun g hg => ?_ }
  unfold St.file
  simp only
  split
  · exact ⟨hl, hlen⟩
  · exact h.bl g hg
/-- the cells of a file -/
theorem DX.cells {base D : Nat} {w : World} {S : St} (h : DX base w D S) {f : Nat} (hf : f ∈ S.fs) : ∃ v, w.heap[f]? = some (.cells #[v, .int .i64 (S.con f).2] 64 (0, 0)) ∧ w.ownsRow base 5 1 v (S.con f).1.length (cellsOf (S.con f).1) ∧ base ≤ f := by
  obtain ⟨vf, N, L, vt, nn, nl, vb, h1⟩ := h.at_
  obtain ⟨a, b, c⟩ := h1.f f hf
  exact ⟨vb f, b, by simpa only [cellsOf_byteV, List.length_map] using c, a⟩
theorem DX.turnD {base D : Nat} {w w' : World} {S : St} (h : DX base w D S) (k : Keeps [D] w w') (c' : Nat) (st' fl' fe' : Int) (dead' : Bool) (hc : S.c ≤ c' ∧ c' ≤ 4000)
    (hd : ∀ vf N L vt, DiskIs w D S.q S.c S.st S.fl S.fe S.dead vf N L vt → DiskIs w' D S.q c' st' fl' fe' dead' vf N L vt) : DX base w' D { S with c := c', st := st', fl := fl', fe := fe', dead := dead' } := by
  obtain ⟨vf, N, L, vt, nn, nl, vb, h1⟩ := h.at_
  exact { at_ := ⟨vf, N, L, vt, nn, nl, vb, h1.turnD k (hd _ _ _ _ h1.d)⟩, vn := h.vn, vl := h.vl, vt := h.vt, bl := h.bl, sf := Nat.le_trans h.sf hc.1, sn := Nat.le_trans h.sn hc.1, sl := Nat.le_trans h.sl hc.1, sc := hc.2 }
end Go.Proofs.Ytebkgkaihjoamaa
