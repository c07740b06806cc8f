/- The library's slices.Sorted over maps.Keys, laid at this seat: by the kit's tools lay-iter and lay-plain. -/
import Derived.Shelf.SlIter.Nil
import Derived.Shelf.SortM.Plain
import Derived.Shelf.SortM.SortNone
import Derived.Ground.GgzProg
import Derived.Ground.SlgmProg
import Derived.Test.YtebkgkaihjoamaaMaps
namespace Go.Proofs.Ytebkgkaihjoamaa
open Go.RowKit Go.Maps Go.Sort Go.Shelf Go.Proofs

def keys43_ren : Go.Shelf.Ren := ⟨fun | 7 => 43 | 10 => 58 | n => n, fun | 23 => 56 | 26 => 9 | 3 => 62 | 28 => 78 | 0 => 0 | 27 => 77 | 33 => 36 | 4 => 4 | n => n, fun | n => n⟩
theorem keys43 : Go.Proofs.SlLaysZ.n7 Try.prog keys43_ren := {
  mixed := by kernel_rfl
  f7 := ⟨Try.f43.name, by decide, Try.func43.trans (congrArg some (by kernel_rfl))⟩
  f10 := ⟨Try.f58.name, by decide, Try.func58.trans (congrArg some (by kernel_rfl))⟩
  t0 := Try.underlying0
  a0 := Try.isAgg0
  z0 := Try.sizeOf0
  v0 := Try.zeroValue0
  t4 := Try.underlying4
  a4 := Try.isAgg4
  z4 := Try.sizeOf4
  v4 := Try.zeroValue4
  t23 := Try.underlying56
  a23 := Try.isAgg56
  z23 := Try.sizeOf56
  v23 := Try.zeroValue56
  t26 := Try.underlying9
  a26 := Try.isAgg9
  z26 := Try.sizeOf9
  v26 := Try.zeroValue9
  t27 := Try.underlying77
  a27 := Try.isAgg77
  z27 := Try.sizeOf77
  v27 := Try.zeroValue77
  t28 := Try.underlying78
  a28 := Try.isAgg78
  z28 := Try.sizeOf78
  v28 := Try.zeroValue78
  t33 := Try.underlying36
  a33 := Try.isAgg36
  z33 := Try.sizeOf36
  v33 := Try.zeroValue36 }
def sorted42_ren : Go.Shelf.Ren := ⟨fun | 6 => 42 | 8 => 56 | 9 => 57 | 11 => 60 | 13 => 62 | 12 => 61 | 23 => 72 | 24 => 73 | 14 => 63 | 15 => 64 | 16 => 65 | 17 => 66 | 18 => 67 | 19 => 68 | 20 => 69 | 21 => 70 | 22 => 71 | 25 => 74 | 26 => 75 | 27 => 76 | 28 => 77 | 29 => 78 | 30 => 79 | 31 => 80 | n => n, fun | 26 => 9 | 28 => 78 | 24 => 28 | 0 => 0 | 3 => 3 | 37 => 53 | 48 => 102 | 50 => 104 | 4 => 4 | 40 => 94 | 39 => 93 | 45 => 99 | 5 => 5 | 9 => 9 | 51 => 105 | 55 => 109 | 57 => 111 | 58 => 112 | 33 => 36 | n => n, fun | n => n⟩
theorem sorted42 : Go.Proofs.SlLaysZ.n6 Try.prog sorted42_ren := {
  mixed := by kernel_rfl
  f6 := ⟨Try.f42.name, by decide, Try.func42.trans (congrArg some (by kernel_rfl))⟩
  f8 := ⟨Try.f56.name, by decide, Try.func56.trans (congrArg some (by kernel_rfl))⟩
  f11 := ⟨Try.f60.name, by decide, Try.func60.trans (congrArg some (by kernel_rfl))⟩
  t0 := Try.underlying0
  a0 := Try.isAgg0
  z0 := Try.sizeOf0
  v0 := Try.zeroValue0
  t24 := Try.underlying28
  a24 := Try.isAgg28
  z24 := Try.sizeOf28
  v24 := Try.zeroValue28
  t26 := Try.underlying9
  a26 := Try.isAgg9
  z26 := Try.sizeOf9
  v26 := Try.zeroValue9
  t28 := Try.underlying78
  a28 := Try.isAgg78
  z28 := Try.sizeOf78
  v28 := Try.zeroValue78
  i26 := by kernel_rfl }
def sort57_ren : Go.Shelf.Ren := ⟨fun | 6 => 57 | 8 => 62 | 9 => 61 | 19 => 72 | 20 => 73 | 21 => 63 | 22 => 64 | 23 => 65 | 24 => 66 | 25 => 67 | 26 => 68 | 27 => 69 | 28 => 70 | 29 => 71 | 36 => 74 | 31 => 75 | 32 => 76 | 37 => 77 | 38 => 78 | 39 => 79 | 41 => 80 | n => n, fun | 27 => 28 | 29 => 9 | 3 => 3 | 32 => 53 | 26 => 28 | 0 => 0 | 44 => 102 | 46 => 104 | 4 => 4 | 36 => 94 | 35 => 93 | 41 => 99 | 5 => 5 | 9 => 9 | 53 => 105 | 57 => 109 | 63 => 111 | 64 => 112 | n => n, fun | n => n⟩
theorem sort57 : Go.Proofs.SlLaysM.n6 Try.prog sort57_ren := {
  mixed := by kernel_rfl
  f6 := ⟨Try.f57.name, by decide, Try.func57.trans (congrArg some (by kernel_rfl))⟩
  f8 := Try.func62.trans (congrArg some (by kernel_rfl))
  f9 := ⟨Try.f61.name, by decide, Try.func61.trans (congrArg some (by kernel_rfl))⟩
  f19 := Try.func72.trans (congrArg some (by kernel_rfl))
  f20 := Try.func73.trans (congrArg some (by kernel_rfl))
  f21 := ⟨Try.f63.name, by decide, Try.func63.trans (congrArg some (by kernel_rfl))⟩
  f22 := ⟨Try.f64.name, by decide, Try.func64.trans (congrArg some (by kernel_rfl))⟩
  f23 := ⟨Try.f65.name, by decide, Try.func65.trans (congrArg some (by kernel_rfl))⟩
  f24 := ⟨Try.f66.name, by decide, Try.func66.trans (congrArg some (by kernel_rfl))⟩
  f25 := ⟨Try.f67.name, by decide, Try.func67.trans (congrArg some (by kernel_rfl))⟩
  f26 := ⟨Try.f68.name, by decide, Try.func68.trans (congrArg some (by kernel_rfl))⟩
  f27 := ⟨Try.f69.name, by decide, Try.func69.trans (congrArg some (by kernel_rfl))⟩
  f28 := ⟨Try.f70.name, by decide, Try.func70.trans (congrArg some (by kernel_rfl))⟩
  f29 := ⟨Try.f71.name, by decide, Try.func71.trans (congrArg some (by kernel_rfl))⟩
  f31 := Try.func75.trans (congrArg some (by kernel_rfl))
  f32 := Try.func76.trans (congrArg some (by kernel_rfl))
  f36 := ⟨Try.f74.name, by decide, Try.func74.trans (congrArg some (by kernel_rfl))⟩
  f37 := ⟨Try.f77.name, by decide, Try.func77.trans (congrArg some (by kernel_rfl))⟩
  f38 := ⟨Try.f78.name, by decide, Try.func78.trans (congrArg some (by kernel_rfl))⟩
  f39 := ⟨Try.f79.name, by decide, Try.func79.trans (congrArg some (by kernel_rfl))⟩
  f41 := ⟨Try.f80.name, by decide, Try.func80.trans (congrArg some (by kernel_rfl))⟩
  t0 := Try.underlying0
  a0 := Try.isAgg0
  z0 := Try.sizeOf0
  v0 := Try.zeroValue0
  t3 := Try.underlying3
  a3 := Try.isAgg3
  z3 := Try.sizeOf3
  v3 := Try.zeroValue3
  t4 := Try.underlying4
  a4 := Try.isAgg4
  z4 := Try.sizeOf4
  v4 := Try.zeroValue4
  t5 := Try.underlying5
  a5 := Try.isAgg5
  z5 := Try.sizeOf5
  v5 := Try.zeroValue5
  t9 := Try.underlying9
  a9 := Try.isAgg9
  z9 := Try.sizeOf9
  v9 := Try.zeroValue9
  t26 := Try.underlying28
  a26 := Try.isAgg28
  z26 := Try.sizeOf28
  v26 := Try.zeroValue28
  t27 := Try.underlying28
  a27 := Try.isAgg28
  z27 := Try.sizeOf28
  v27 := Try.zeroValue28
  t29 := Try.underlying9
  a29 := Try.isAgg9
  z29 := Try.sizeOf9
  v29 := Try.zeroValue9
  t32 := Try.underlying53
  a32 := Try.isAgg53
  z32 := Try.sizeOf53
  v32 := Try.zeroValue53
  t35 := Try.underlying93
  a35 := Try.isAgg93
  z35 := Try.sizeOf93
  v35 := Try.zeroValue93
  t36 := Try.underlying94
  a36 := Try.isAgg94
  z36 := Try.sizeOf94
  v36 := Try.zeroValue94
  t41 := Try.underlying99
  a41 := Try.isAgg99
  z41 := Try.sizeOf99
  v41 := Try.zeroValue99
  t44 := Try.underlying102
  a44 := Try.isAgg102
  z44 := Try.sizeOf102
  v44 := Try.zeroValue102
  t46 := Try.underlying104
  a46 := Try.isAgg104
  z46 := Try.sizeOf104
  v46 := Try.zeroValue104
  t53 := Try.underlying105
  a53 := Try.isAgg105
  z53 := Try.sizeOf105
  v53 := Try.zeroValue105
  t57 := Try.underlying109
  a57 := Try.isAgg109
  z57 := Try.sizeOf109
  v57 := Try.zeroValue109
  t63 := Try.underlying111
  a63 := Try.isAgg111
  z63 := Try.sizeOf111
  v63 := Try.zeroValue111
  t64 := Try.underlying112
  a64 := Try.isAgg112
  z64 := Try.sizeOf112
  v64 := Try.zeroValue112 }
theorem sorts42 (m : Nat) : AnyZ.SortsIn Try.prog sorted42_ren Fence.wide m :=
  ⟨fun blk off cap ss W hH hblk hsz => callsIn_wide.2 (AnyM.slices_Sort_string sort57 blk off cap ss W hH hblk hsz),
   fun p cap W => callsIn_wide.2 (AnyM.slices_Sort_string_none sort57 p cap W)⟩

theorem maps_Keys_43 (mb : Option Nat) (W : World) : CallsIn Fence.wide 5 Try.prog 43 #[.map mb] W fun e w' => e = .returned (.func (.func 58) #[] #[.pointer (some ⟨W.heap.size, 0, none⟩)]) ∧ w' = W.alloc (.cells #[.map mb] 56) :=
  AnyZ.keys_in keys43 Fence.wide 5 trivial rfl mb W

set_option maxHeartbeats 1000000 in
theorem slices_Sorted_keys_42_43 {H : Type} (b nn : Nat) (D0 : DataW H) (R : Value → Option (DataW H × List MemPlace)) (w : World) (hown : w.ownsMap Try.prog 9 R b nn D0) (hmax : Maps.size D0 ≤ maxLen) (hbytes : Maps.size D0 * 16 ≤ 140737488355328) :
    CallsIn Fence.wide 5 Try.prog 42 #[.func (.func 58) #[] #[.pointer (some ⟨w.heap.size, 0, none⟩)]] (w.alloc (.cells #[.map (some b)] 56)) fun e w' => ∃ (v : Value) (ss : List (List UInt8)), e = .returned v ∧ ss.Perm (strKeys D0) ∧
      w'.ownsRow (w.alloc (.cells #[.map (some b)] 56)).heap.size 9 1 v ss.length ((ss.mergeSort (fun x y => decide (x ≤ y))).map encStr) ∧ (v = .slice none 0 0 ↔ ss = []) ∧ Below (w.alloc (.cells #[.map (some b)] 56)).heap.size (w.alloc (.cells #[.map (some b)] 56)) w' := by
  have hbl := hown.lt
  have hseq : SeqGives Fence.wide 2 Try.prog 58 #[.pointer (some ⟨w.heap.size, 0, none⟩)] encStr (fun ss => ss.Perm (strKeys D0)) (Maps.size D0) (w.alloc (.cells #[.map (some b)] 56)) :=
    AnyZ.keys_gives (ρ := keys43_ren) { keys43 with } Fence.wide _ trivial rfl (by omega) w.heap.size b nn D0 _ (by simp) (by simp) (by
      obtain ⟨es, clock, hb, Ft, hs, hD⟩ := hown
      exact ⟨es, clock, (Below.heap_alloc _ _ b hbl).trans hb, Ft, hs, hD⟩)
  exact AnyZ.sorted_in sorted42 Fence.wide 5 trivial trivial trivial trivial rfl (by omega) (sorts42 _) (enters_of Try.func57 (by kernel_rfl) rfl) 58 #[.pointer (some ⟨w.heap.size, 0, none⟩)] trivial (enters_of Try.func58 (by kernel_rfl) rfl) _ _ hmax hbytes _ hseq

end Go.Proofs.Ytebkgkaihjoamaa
