/- The names that DiskFiles makes, and the disk's state behind k of them. -/
import Derived.Test.YtebkgkaihjoamaaMany
namespace Go.Proofs.Ytebkgkaihjoamaa
open Go.RowKit Go.Proofs

/-- the k-th name -/
def fName (k : Nat) : List UInt8 := [102, UInt8.ofNat (97 + k / 26), UInt8.ofNat (97 + k % 26)]
theorem fName_ok : ∀ k, k < 67 → nameOk (textOf (fName k)) = true := by decide +kernel
theorem fName_inj {i j : Nat} (hi : i < 67) (hj : j < 67) (h : fName i = fName j) : i = j := by
  simp only [fName, List.cons.injEq, and_true, true_and] at h
  have h1 := congrArg UInt8.toNat h.1
  have h2 := congrArg UInt8.toNat h.2
  simp at h1 h2
  omega
def fNames (k : Nat) : List (List UInt8) := (List.range k).map fName
theorem fNames_succ (k : Nat) : fNames (k + 1) = fNames k ++ [fName k] := by simp [fNames, List.range_succ]
theorem fNames_length (k : Nat) : (fNames k).length = k := by simp [fNames]
theorem fName_new {k m : Nat} (hk : k < 67) (hm : m ≤ k) : fName k ∉ fNames m := fun h => by
  obtain ⟨j, hj, e⟩ := List.mem_map.1 h
  have hj' := List.mem_range.1 hj
  have := fName_inj (by omega) hk e
  omega
/-- the disk behind k calls of Create -/
structure FilesS (S : St) (k : Nat) : Prop where
  nm : NmIs S.nm (fNames (min k 64))
  c : S.c = k
  p : S.Plain
theorem FilesS.made {S : St} {k : Nat} (h : FilesS S k) (hk : k < 64) (f : Nat) : FilesS (S.made (textOf (fName k)) f) (k + 1) := by
  refine ⟨?_, ?_, ⟨h.p.dead, h.p.fl, h.p.st⟩⟩
  · have h1 := h.nm
    rw [Nat.min_eq_left (by omega)] at h1
    rw [Nat.min_eq_left (by omega), fNames_succ]
    exact h1.put (fName_new (by omega) (Nat.le_refl _)) _
  · show S.c + 1 = _
    rw [h.c]
theorem FilesS.more {S : St} {k : Nat} (h : FilesS S k) (hk : 64 ≤ k) : FilesS S.count (k + 1) := by
  refine ⟨?_, ?_, ⟨h.p.dead, h.p.fl, h.p.st⟩⟩
  · have h1 := h.nm
    rw [Nat.min_eq_right hk] at h1
    rw [Nat.min_eq_right (by omega)]
    exact h1
  · show S.c + 1 = _
    rw [h.c]
theorem FilesS.miss {S : St} {k : Nat} (h : FilesS S k) (hk : k < 67) : fileOf S.nm (fName k) = noFile := h.nm.miss (fName_new hk (Nat.min_le_left _ _))
theorem FilesS.size {S : St} {k : Nat} (h : FilesS S k) : Maps.size S.nm = min k 64 := by rw [h.nm.size, fNames_length]
theorem FilesS.new (q : Int) : FilesS (St.new q) 0 := ⟨NmIs.none, rfl, St.new_plain q⟩

/-- a slice of two bytes that lies anew, as a text -/
theorem conv_two (w : World) (x y : UInt8) (a b : Int) (ha : a = (x.toNat : Int)) (hb : b = (y.toNat : Int)) :
    (convert 29 9 (.slice (some ⟨w.heap.size, 0, none⟩) 2 2)).run Try.prog (w.alloc (.cells #[.int .u8 a, .int .u8 b] 5)) = .ok (.string (textOf [x, y])) (w.alloc (.cells #[.int .u8 a, .int .u8 b] 5)) := by
  subst ha hb
  refine reads_string (l := [x, y]) (.inr ⟨w.heap.size, 0, 2, rfl, by simp, fun j u hj => ?_⟩)
  have hn : (w.alloc (.cells #[.int .u8 (x.toNat : Int), .int .u8 (y.toNat : Int)] 5)).heap[w.heap.size]? = some (.cells #[.int .u8 (x.toNat : Int), .int .u8 (y.toNat : Int)] 5 (0, 0)) := heap_alloc_new w _
  rw [show ((⟨w.heap.size, 0, none⟩ : Addr).add j) = ⟨w.heap.size, j, none⟩ from by cases j <;> simp [Addr.add]]
  simp only [World.cell?, hn]
  match j with
  | 0 => simpa [cellsOf] using hj
  | 1 => simpa [cellsOf] using hj
  | j + 2 => simp [cellsOf] at hj
/-- how the k-th name comes to be -/
theorem fName_comes (w : World) (k : Nat) (hk : k < 67) : ∃ t2 t3 : ByteArray,
    (convert 29 9 (.slice (some ⟨w.heap.size, 0, none⟩) 2 2)).run Try.prog (w.alloc (.cells #[.int .u8 (97 + (k : Int) / 26), .int .u8 (97 + (k : Int) % 26)] 5)) = .ok (.string t2) (w.alloc (.cells #[.int .u8 (97 + (k : Int) / 26), .int .u8 (97 + (k : Int) % 26)] 5)) ∧
    (∀ W, (binOp .add 9 (.string ⟨#[102]⟩) (.string t2)).run Try.prog W = .ok (.string t3) W) ∧ (∀ W, (Op.stringOp .add ⟨#[102]⟩ t2).run Try.prog W = .ok (.string t3) W) ∧ t3 = textOf (fName k) :=
  ⟨_, _, conv_two w (UInt8.ofNat (97 + k / 26)) (UInt8.ofNat (97 + k % 26)) _ _ (by simp; omega) (by simp; omega), fun W => add_text W [102] _ (by simp), fun W => add_text2 W [102] _ (by simp), rfl⟩
/-- List tells as many names as there are -/
theorem list_files {base D : Nat} {w : World} {S : St} {k : Nat} (h : DX base w D S) (hf : FilesS S k) :
    Calls Try.prog 16 #[.pointer (some ⟨D, 0, none⟩)] w fun e w' => ∃ p cap, e = .returned (.slice p (min k 64) cap) ∧ Keeps [] w w' := by
  refine (list_dx h hf.p.dead).mono ?_
  rintro e w' ⟨v, ss, rfl, hp, hr, hk'⟩
  obtain ⟨p, cap, rfl, _⟩ := hr.shape
  refine ⟨p, cap, ?_, hk'⟩
  rw [List.length_mergeSort, hp.length_eq, hf.nm.keys.length_eq, fNames_length]
end Go.Proofs.Ytebkgkaihjoamaa
