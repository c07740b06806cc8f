/- The contract of Bytes: so many bytes by a number. -/
import Derived.Test.YtebkgkaihjoamaaRead
import Derived.Laws.IdiomStrings
namespace Go.Proofs.Ytebkgkaihjoamaa
open Go.RowKit Go.Proofs

/-- so many bytes by a number -/
def bytesOf (n long : Nat) : List UInt8 := (List.range long).map fun i => UInt8.ofNat (n + 3 * i)
/-- bytes as values -/
def cellsOf (l : List UInt8) : List Value := l.map fun b => Value.int .u8 (b.toNat : Int)
theorem reads_string {w : World} {v : Value} {l : List UInt8} (h : Reads w v (cellsOf l)) : (convert 29 9 v).run Try.prog w = .ok (.string ⟨l.toArray⟩) w := by
  rcases h with ⟨rfl, h0⟩ | ⟨g, o, cap, rfl, hg, hc⟩
  · obtain rfl : l = [] := by simpa [cellsOf] using h0
    rw [run_convert_bytes_nil w 29 5 Try.underlying29 Try.underlying5 0 0 9 Try.underlying9]
    rfl
  · have hl : (cellsOf l).length = l.length := by simp [cellsOf]
    rw [hl]
    exact run_convert_bytes_back w 29 9 5 ⟨g, o, none⟩ cap l Try.underlying29 Try.underlying5 Try.underlying9 fun j hj => hc j _ (by simp [cellsOf, List.getElem?_eq_getElem hj])

/-- the cells of which the first k are told -/
def pre (n long k : Nat) : List Value := (cellsOf (bytesOf n k)) ++ List.replicate (long - k) (.int .u8 0)
theorem pre_at (n long k : Nat) (h : k < long) : (pre n long k)[k]? = some (.int .u8 0) := by
  unfold pre
  rw [List.getElem?_append_right (by simp [cellsOf, bytesOf])]
  simp [cellsOf, bytesOf, List.getElem?_replicate]
  omega
theorem byte_wrap (n k : Nat) : IntKind.u8.wrap ((n : Int) + 3 * (k : Int)) = ((UInt8.ofNat (n + 3 * k)).toNat : Int) := by
  rw [IntKind.wrap_u8]
  simp
theorem pre_set (n long k : Nat) (h : k < long) : (pre n long k).set k (.int .u8 (IntKind.u8.wrap ((n : Int) + 3 * (k : Int)))) = pre n long (k + 1) := by
  rw [byte_wrap]
  unfold pre
  have hl : (cellsOf (bytesOf n k)).length = k := by simp [cellsOf, bytesOf]
  rw [List.set_append_right _ _ (by omega), hl, Nat.sub_self, show long - k = (long - (k + 1)) + 1 by omega, List.replicate_succ, List.set_cons_zero]
  simp [cellsOf, bytesOf, List.range_succ]
theorem pre_all (n k : Nat) : pre n k k = cellsOf (bytesOf n k) := by simp [pre]
theorem madeCells_one (m : Nat) : (madeCells #[Value.int .u8 0] m).toList = List.replicate m (.int .u8 0) := by
  apply List.ext_getElem
  · simp [size_madeCells]
  · intro i h1 h2
    simp [madeCells, Nat.mod_one]

set_option maxRecDepth 100000 in
theorem bytes_any (w : World) (n long : Nat) (hn : n ≤ 1000000) (hl : long ≤ 100000) :
    Calls Try.prog 27 #[.int .i64 n, .int .i64 long] w fun e w' => e = .returned (.string ⟨(bytesOf n long).toArray⟩) ∧ Keeps [] w w' := by
  obtain ⟨i0, hi, hz0, hz1, hz2⟩ := info_parts info5
  go_enter Try.func27, Try.ntmps27
  go_wp2_with (refine wpList_make_full w rfl (.tmp 7) (.tmp 7) 29 rfl w.heap.size 5 i0 (.int .u8 0) 1 Try.underlying29 hi hz0 hz1 .i64 .i64 _ _ long rfl rfl rfl rfl ?_ ?_ ?_ ?_)
  · rw [hz2]; omega
  · unfold maxLen; omega
  · exact Nat.le_refl _
  intro w1 hown hgrow
  have hK : Keeps [] w w1 := (Keeps.refl _ w).grown hgrow (fun k e => by cases e)
  have hB : w.heap.size < w1.heap.size := by
    have := (hown.lt w.heap.size rfl).2
    exact this
  rw [madeCells_one, show List.replicate long (Value.int .u8 0) = pre n long 0 by simp [pre, cellsOf, bytesOf]] at hown
  have HO := Lib.hid hown
  have HK := Lib.hid hK
  clear hown hgrow hK
  go_wp2
  go_loopw [11] (fun i wr => ∃ k : Nat, k ≤ long ∧ i = .int .i64 k ∧ wr.ownsRow w.heap.size 5 1 (.slice (some ⟨w.heap.size, 0, none⟩) long long) long (pre n long k) ∧ Keeps [] w wr) (fun i _ => long - (intOf i).toNat)
  case atStart => exact ⟨0, Nat.zero_le _, rfl, HO.out, HK.out⟩
  case round =>
    obtain ⟨k, hk, rfl, hown, hkk⟩ := hrel
    by_cases hlt : k < long
    · have hcell := ownsRow_cell hown k (.int .u8 0) (pre_at n long k hlt)
      have hfz := ownsRow_frozen hown k
      have HS := Lib.hid (ownsRow_set hown k (.int .u8 (IntKind.u8.wrap ((n : Int) + 3 * (k : Int)))))
      rw [pre_set n long k hlt] at HS
      have HKr := Lib.hid hkk
      clear hown hkk HO HK
      go_wp2
      go_roundw
      case rel => exact ⟨k + 1, by omega, by go_num, HS.out, HKr.out.setCell _ _ (fun h => by simp at h)⟩
      case measure => simp [intOf]; omega
    · obtain rfl : k = long := by omega
      have hr := reads_string (w := wr) (l := bytesOf n k) (by have := ownsRow_reads hown; rwa [pre_all] at this)
      have HKr := Lib.hid hkk
      clear hown hkk HO HK
      go_wp2
      go_ret
      exact ⟨rfl, HKr.out⟩
end Go.Proofs.Ytebkgkaihjoamaa
