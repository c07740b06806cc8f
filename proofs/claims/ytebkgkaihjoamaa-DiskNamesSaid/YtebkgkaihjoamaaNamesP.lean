/- The names that DiskNames makes, and the disk's state behind k of them. -/
import Derived.Test.YtebkgkaihjoamaaMany
import Derived.Test.YtebkgkaihjoamaaCrashK
namespace Go.Proofs.Ytebkgkaihjoamaa
open Go.RowKit Go.Proofs

def nName (k : Nat) : List UInt8 := [110, UInt8.ofNat (97 + k)]
def oldN : List UInt8 := [111, 108, 100]
theorem nName_ok : ∀ k, k < 16 → nameOk (textOf (nName k)) = true := by decide +kernel
theorem nName_inj {i j : Nat} (hi : i < 16) (hj : j < 16) (h : nName i = nName j) : i = j := by
  simp only [nName, List.cons.injEq, and_true, true_and] at h
  have h1 := congrArg UInt8.toNat h
  simp at h1
  omega
theorem nName_le : ∀ i, i < 16 → ∀ j, j < 16 → i < j → nName i ≤ nName j := by decide +kernel
theorem nName_old : ∀ i, i < 16 → nName i ≤ oldN := by decide +kernel
theorem nName_ne (i : Nat) : nName i ≠ oldN := fun h => by simp [nName, oldN] at h
/-- is the i-th kept? -/
def keepB (sy : Bool) (kp : List Bool) (i : Nat) : Bool := sy || (kp[i]?).getD true
/-- the names that are kept of the first k -/
def wantN (sy : Bool) (kp : List Bool) (k : Nat) : List (List UInt8) := ((List.range k).filter (keepB sy kp)).map nName
theorem wantN_succ (sy : Bool) (kp : List Bool) (k : Nat) : wantN sy kp (k + 1) = if keepB sy kp k = true then wantN sy kp k ++ [nName k] else wantN sy kp k := by
  unfold wantN
  rw [List.range_succ, List.filter_append]
  by_cases h : keepB sy kp k = true <;> simp [h]
theorem wantN_length (sy : Bool) (kp : List Bool) (k : Nat) : (wantN sy kp k).length ≤ k := by
  unfold wantN
  rw [List.length_map]
  exact Nat.le_trans (List.length_filter_le _ _) (by simp)
theorem wantN_new {sy : Bool} {kp : List Bool} {k : Nat} (hk : k < 16) : nName k ∉ oldN :: wantN sy kp k := fun h => by
  rcases List.mem_cons.1 h with h | h
  · exact nName_ne k h
  obtain ⟨j, hj, e⟩ := List.mem_map.1 h
  have hj' := List.mem_range.1 (List.mem_filter.1 hj).1
  have := nName_inj (by omega) hk e
  omega
theorem wantN_sorted (sy : Bool) (kp : List Bool) (k : Nat) (hk : k ≤ 16) : (wantN sy kp k ++ [oldN]).Pairwise (fun x y => x ≤ y) := by
  refine List.pairwise_append.2 ⟨?_, by simp, fun a ha b hb => ?_⟩
  · unfold wantN
    rw [List.pairwise_map]
    refine ((List.pairwise_lt_range (n := k)).filter _).imp_of_mem fun {a b} ha hb h => ?_
    have ha' := List.mem_range.1 (List.mem_filter.1 ha).1
    have hb' := List.mem_range.1 (List.mem_filter.1 hb).1
    exact nName_le a (by omega) b (by omega) h
  · obtain ⟨j, hj, rfl⟩ := List.mem_map.1 ha
    have hj' := List.mem_range.1 (List.mem_filter.1 hj).1
    obtain rfl := List.mem_singleton.1 hb
    exact nName_old j (by omega)

/-- the disk behind k names -/
structure NamesS (S : St) (kp : List Bool) (k : Nat) : Prop where
  nm : NmIs S.nm (oldN :: wantN true kp k)
  now : NmIs (nowOf S.ts kp S.ls) (oldN :: wantN false kp k)
  ts : S.ts.length = k
  c : S.c = 2 + k
  p : S.Plain
theorem NamesS.made {S : St} {kp : List Bool} {k : Nat} (h : NamesS S kp k) (hk : k < 16) (f : Nat) : NamesS (S.made (textOf (nName k)) f) kp (k + 1) := by
  refine ⟨?_, ?_, ?_, ?_, ⟨h.p.dead, h.p.fl, h.p.st⟩⟩
  · rw [wantN_succ, if_pos (show keepB true kp k = true from rfl)]
    exact h.nm.put (wantN_new hk) _
  · show NmIs (nowOf (S.ts ++ [Turn.make (textOf (nName k)) f]) kp S.ls) _
    have h1 : (S.ts ++ [Turn.make (textOf (nName k)) f])[k]? = some (Turn.make (textOf (nName k)) f) := by
      rw [← h.ts]; simp
    have h2 := nowOf_succ kp S.ls h1
    rw [List.take_of_length_le (by simp [h.ts]), List.take_append_of_le_length (by rw [h.ts]; exact Nat.le_refl _), List.take_of_length_le (by rw [h.ts]; exact Nat.le_refl _)] at h2
    rw [h2, wantN_succ]
    show NmIs (if (kp[k]?).getD true = true then _ else _) (oldN :: if (kp[k]?).getD true = true then _ else _)
    split
    · exact h.now.put (wantN_new hk) _
    · exact h.now
  · show (S.ts ++ [Turn.make (textOf (nName k)) f]).length = _
    simp [h.ts]
  · show S.c + 1 = _
    rw [h.c]; omega
theorem NamesS.miss {S : St} {kp : List Bool} {k : Nat} (h : NamesS S kp k) (hk : k < 16) : fileOf S.nm (nName k) = noFile := h.nm.miss (wantN_new hk)
theorem NamesS.size {S : St} {kp : List Bool} {k : Nat} (h : NamesS S kp k) : Maps.size S.nm ≤ k + 1 := by
  rw [h.nm.size, List.length_cons]
  have := wantN_length true kp k
  omega
theorem NamesS.synced {S : St} {kp : List Bool} {k : Nat} (h : NamesS S kp k) : NmIs (nowOf S.lasting.ts kp S.lasting.ls) (oldN :: wantN true kp k) := h.nm
/-- a disk behind a Crash: names that last -/
structure Firms (S : St) (l : List (List UInt8)) : Prop where
  nm : NmIs S.nm l
  ls : S.ls = S.nm
  ts : S.ts = []
  p : S.Plain
theorem Firms.now {S : St} {l : List (List UInt8)} (h : Firms S l) (kp : List Bool) : NmIs (nowOf S.ts kp S.ls) l := by
  rw [h.ts, h.ls]
  exact h.nm
theorem crashed_firms {base D : Nat} {w w' : World} {S : St} {kp : List Bool} {l : List (List UInt8)} (h : NmIs (nowOf S.ts kp S.ls) l) (hc : Crashed base w D S [] kp w') : Below base w w' ∧ ∃ S', DX base w' D S' ∧ Firms S' l := by
  obtain ⟨hb, m, Cx, es, _, _, _, hnow, _, hX⟩ := hc
  rw [hnow] at h
  exact ⟨hb, _, hX, h, rfl, rfl, ⟨rfl, rfl, by simp [St.crashed, St.kept, St.refile, St.renewed]⟩⟩
/-- List, behind a Crash -/
theorem list_firms {base D : Nat} {w : World} {S : St} {sy : Bool} {kp : List Bool} {k : Nat} (h : DX base w D S) (hf : Firms S (oldN :: wantN sy kp k)) (hk : k ≤ 16) :
    Calls Try.prog 16 #[.pointer (some ⟨D, 0, none⟩)] w fun e w' => ∃ v, e = .returned v ∧ StrRow w' v (wantN sy kp k ++ [oldN]) ∧ Keeps [] w w' := by
  refine (list_dx h hf.p.dead).mono ?_
  rintro e w' ⟨v, ss, rfl, hp, hr, hk'⟩
  refine ⟨v, rfl, ?_, hk'⟩
  rw [sorted_is ((hp.trans hf.nm.keys).trans (List.perm_append_singleton _ _).symm) (wantN_sorted sy kp k hk)] at hr
  exact hr
/-- an own row of texts, where cells of other kinds than a disk's are kept -/
theorem strOwn_keepT {w w' : World} {base n : Nat} {v : Value} {ts : List (List UInt8)} (h : w.ownsRow base 9 1 v n (ts.map encStr)) (k : KeepT w w') : w'.ownsRow base 9 1 v n (ts.map encStr) := by
  refine ⟨h.1, ?_⟩
  rcases h.2 with h0 | ⟨g, cap, cur, h1, h2, hh, h3⟩
  · exact .inl h0
  · exact .inr ⟨g, cap, cur, h1, h2, k g _ _ _ hh (by simp), h3⟩
end Go.Proofs.Ytebkgkaihjoamaa
