/- The contracts of Crash's test and of slices.DeleteFunc at files. -/
import Derived.Test.YtebkgkaihjoamaaOpen
import Derived.Lib.SliceRun
namespace Go.Proofs.Ytebkgkaihjoamaa
open Go.RowKit Go.Proofs

/-- a set of files in a box, all of it files -/
structure SetBox (w : World) (B M : Nat) (C : List Nat) : Prop where
  b : Boxed w B 72 (.map (some M))
  s : SetAt w M C
  c : ∀ g ∈ C, IsCells w g
theorem SetBox.keep {X : List Nat} {w w' : World} {B M : Nat} {C : List Nat} (h : SetBox w B M C) (k : Keeps X w w') (hB : B ∉ X) (hM : M ∉ X) (hC : ∀ g ∈ C, g ∉ X) : SetBox w' B M C :=
  ⟨k.boxed h.b hB, k.set h.s hM, fun g hg => (h.c g hg).keep k (hC g hg)⟩
theorem del1 {w : World} {B M f : Nat} {C : List Nat} (h : SetBox w B M C) (hf : IsCells w f) :
    Calls Try.prog 40 #[fptr f, .pointer (some ⟨B, 0, none⟩)] w fun e w' => e = .returned (.bool (!C.contains f)) ∧ w = w' := by
  have hl := h.s.look f hf h.c
  have cb := h.b.cell
  generalize C.contains f = b at *
  clear h hf
  go_enter Try.func40, Try.ntmps40
  go_wp2
  go_ret
  exact ⟨rfl, rfl⟩

set_option maxRecDepth 100000 in
theorem index_any {w : World} {base B M : Nat} {C : List Nat} (h : SetBox w B M C) (vf : Value) (fs : List Nat) (hr : w.ownsRow base 62 1 vf fs.length (fs.map fptr)) (hf : ∀ f ∈ fs, IsCells w f) (hlen : fs.length ≤ 100000) :
    Calls Try.prog 55 #[vf, .func (.func 40) #[] #[.pointer (some ⟨B, 0, none⟩)]] w fun e w' => w = w' ∧ ((e = .returned (.int .i64 (-1)) ∧ ∀ f ∈ fs, f ∈ C) ∨ ∃ (k f : Nat), e = .returned (.int .i64 k) ∧ fs[k]? = some f ∧ f ∉ C ∧ ∀ j g, j < k → fs[j]? = some g → g ∈ C) := by
  have HD := Lib.hid (fun f (hm : f ∈ fs) => del1 h (hf f hm))
  have HR := Lib.hid hr
  obtain ⟨pv, cv, rfl⟩ := ownsRow_slice hr
  clear h hf hr
  go_enter Try.func55, Try.ntmps55
  go_wp2_with fail
  go_loopw [8] (fun i wr => ∃ k : Nat, k ≤ fs.length ∧ i = .int .i64 k ∧ wr = w ∧ ∀ j g, j < k → fs[j]? = some g → g ∈ C) (fun i _ => fs.length - (intOf i).toNat)
  case atStart => exact ⟨0, Nat.zero_le _, rfl, rfl, fun j g h => absurd h (by omega)⟩
  case round =>
    obtain ⟨k, hk, rfl, rfl, hall⟩ := hrel
    have HA := Lib.hid hall
    clear hall
    by_cases hlt : k < fs.length
    · rcases ownsRow_shape HR.out with ⟨_, h⟩ | ⟨g, ct, hq, hg, hgl⟩
      · omega
      simp at hq
      obtain ⟨rfl, rfl⟩ := hq
      obtain ⟨f, hf⟩ : ∃ f, fs[k]? = some f := ⟨fs[k], by simp [hlt]⟩
      have hcell := ownsRow_cell HR.out k (fptr f) (by rw [List.getElem?_map, hf]; rfl)
      have HDf := Lib.hid (HD.out f (List.mem_of_getElem? hf))
      have HF := Lib.hid hf
      clear hf
      cases hc : C.contains f
      · have hn : f ∉ C := by simpa using hc
        rw [hc] at HDf
        have HN := Lib.hid hn
        clear hn hc
        go_wp2_with (go_at_call 40; (with_reducible refine HDf.out.mono ?_); rintro e w' ⟨rfl, rfl⟩)
        go_ret
        exact ⟨by first | rfl | trivial, .inr ⟨k, f, rfl, HF.out, HN.out, HA.out⟩⟩
      · have hn : f ∈ C := by simpa using hc
        rw [hc] at HDf
        have HN := Lib.hid hn
        clear hn hc
        go_wp2_with (go_at_call 40; (with_reducible refine HDf.out.mono ?_); rintro e w' ⟨rfl, rfl⟩)
        go_roundw
        case rel =>
          refine ⟨k + 1, by omega, by go_num, by first | rfl | trivial, fun j g hj hg => ?_⟩
          rcases Nat.lt_succ_iff_lt_or_eq.1 hj with h | rfl
          · exact HA.out j g h hg
          · rw [HF.out] at hg
            cases hg
            exact HN.out
        case measure => simp [intOf]; omega
    · obtain rfl : k = fs.length := by omega
      go_wp2
      go_ret
      refine ⟨by first | rfl | trivial, .inl ⟨rfl, fun f hf => ?_⟩⟩
      obtain ⟨j, hj⟩ := List.mem_iff_getElem?.1 hf
      exact HA.out j f (List.getElem?_eq_some_iff.1 hj).1 hj

theorem ownsRow_setCells {base g cap n : Nat} {e : TypeId} : ∀ (vs : List Value) (o : Nat) (w : World) (xs : List Value), w.ownsRow base e 1 (.slice (some ⟨g, 0, none⟩) n cap) n xs →
    ∃ xs', (w.setCells g o vs).ownsRow base e 1 (.slice (some ⟨g, 0, none⟩) n cap) n xs' ∧ xs'.take o = xs.take o
  | [], o, w, xs, h => ⟨xs, h, rfl⟩
  | v :: vs, o, w, xs, h => by
    obtain ⟨xs', h1, h2⟩ := ownsRow_setCells vs (o + 1) _ _ (ownsRow_set h o v)
    refine ⟨xs', h1, ?_⟩
    have h3 := congrArg (List.take o) h2
    rw [List.take_take, List.take_take, Nat.min_eq_left (by omega)] at h3
    rw [h3, List.take_set_of_le (by omega)]
theorem Keeps.setCells {X : List Nat} {a : World} {g : Nat} (hg : g ∈ X) : ∀ (vs : List Value) (o : Nat) (b : World), Keeps X a b → Keeps X a (b.setCells g o vs)
  | [], _, _, h => h
  | _ :: vs, o, _, h => Keeps.setCells hg vs (o + 1) _ (h.setCell _ _ fun _ => hg)
theorem ownsRow_take {w : World} {base g cap n m : Nat} {e : TypeId} {xs : List Value} (h : w.ownsRow base e 1 (.slice (some ⟨g, 0, none⟩) n cap) n xs) (hm : m ≤ n) : w.ownsRow base e 1 (.slice (some ⟨g, 0, none⟩) m cap) m (xs.take m) := by
  obtain ⟨hl, hr⟩ := h
  refine ⟨by rw [List.length_take, hl]; omega, ?_⟩
  rcases hr with ⟨h0, _⟩ | ⟨g', cap', cur, hv, hg, hh, hn, hcap, hsz, ht⟩
  · cases h0
  · simp at hv
    obtain ⟨rfl, rfl⟩ := hv
    refine .inr ⟨g, cap, cur, rfl, hg, hh, by omega, hcap, hsz, ?_⟩
    rw [← ht, List.take_take]
    congr 1
    omega
theorem ownsRow_cap {w : World} {base g cap n : Nat} {e : TypeId} {xs : List Value} (h : w.ownsRow base e 1 (.slice (some ⟨g, 0, none⟩) n cap) n xs) : n ≤ cap := by
  rcases h.2 with ⟨h0, _⟩ | ⟨g', cap', cur, hv, hg, hh, hn, _⟩
  · cases h0
  · simp at hv
    obtain ⟨rfl, rfl⟩ := hv
    exact hn
/-- the files that stay -/
def stay (C fs : List Nat) : List Nat := fs.filter fun f => C.contains f
theorem stay_hit {C fs : List Nat} {k f : Nat} (h : fs[k]? = some f) (hc : C.contains f = true) : stay C (fs.take (k + 1)) = stay C (fs.take k) ++ [f] := by
  unfold stay
  rw [List.take_add_one, h, List.filter_append]
  simp at hc
  simp [hc]
theorem stay_miss {C fs : List Nat} {k f : Nat} (h : fs[k]? = some f) (hc : C.contains f = false) : stay C (fs.take (k + 1)) = stay C (fs.take k) := by
  unfold stay
  rw [List.take_add_one, h, List.filter_append]
  simp at hc
  simp [hc]
theorem stay_le {C fs : List Nat} (k : Nat) : (stay C (fs.take k)).length ≤ k := by
  have := List.length_filter_le (fun f => C.contains f) (fs.take k)
  unfold stay
  rw [List.length_take] at this
  omega

set_option maxRecDepth 100000 in
set_option maxHeartbeats 1000000 in
theorem delete_any {w : World} {base B M : Nat} {C : List Nat} (h : SetBox w B M C) (vf : Value) (fs : List Nat) (hr : w.ownsRow base 62 1 vf fs.length (fs.map fptr)) (hf : ∀ f ∈ fs, IsCells w f) (hlen : fs.length ≤ 100000)
    (hB : vf.ownBlock ≠ some B) (hM : vf.ownBlock ≠ some M) (hfs : ∀ f ∈ fs, vf.ownBlock ≠ some f) (hCs : ∀ f ∈ C, vf.ownBlock ≠ some f) :
    Calls Try.prog 39 #[vf, .func (.func 40) #[] #[.pointer (some ⟨B, 0, none⟩)]] w fun e w' => ∃ v', e = .returned v' ∧ w'.ownsRow base 62 1 v' (stay C fs).length ((stay C fs).map fptr) ∧ v'.ownBlock = vf.ownBlock ∧ Keeps vf.ownBlock.toList w w' := by
  have HI := Lib.hid (index_any h vf fs hr hf hlen)
  have HR := Lib.hid hr
  have HS := Lib.hid h
  have HFS := Lib.hid hf
  obtain ⟨pv, cv, rfl⟩ := ownsRow_slice hr
  clear h hf hr
  go_enter Try.func39, Try.ntmps39
  go_wp2_with (go_at_call 55; (with_reducible refine HI.out.mono ?_))
  rintro e w' ⟨rfl, ⟨rfl, hall⟩ | ⟨k0, f0, rfl, hk0, hn0, hlow⟩⟩
  · have hst : stay C fs = fs := by
      unfold stay
      exact List.filter_eq_self.2 fun f hf => by simpa using hall f hf
    go_wp2
    go_ret
    rw [hst]
    exact ⟨_, rfl, HR.out, rfl, Keeps.refl _ _⟩
  · have hk0l := (List.getElem?_eq_some_iff.1 hk0).1
    have hs0 : stay C (fs.take (k0 + 1)) = fs.take k0 := by
      rw [stay_miss hk0 (by simpa using hn0)]
      unfold stay
      refine List.filter_eq_self.2 fun f hf => ?_
      obtain ⟨j, hj⟩ := List.mem_iff_getElem?.1 hf
      have hj1 := (List.getElem?_eq_some_iff.1 hj).1
      rw [List.length_take] at hj1
      rw [List.getElem?_take, if_pos (by omega)] at hj
      simpa using hlow j f (by omega) hj
    rcases ownsRow_shape HR.out with ⟨_, h⟩ | ⟨g, ct, hq, hg, hgl⟩
    · omega
    simp at hq
    obtain ⟨rfl, rfl⟩ := hq
    have HH := Lib.hid hs0
    have hcap := ownsRow_cap HR.out
    have hb1 : ((k0 : Int) == -1) = false := beq_eq_false_iff_ne.2 (by omega)
    clear hs0 hlow hk0 hn0
    go_wp2_with fail
    go_loopw [5, 6, 7] (fun vi vj _ wr => ∃ (i j : Nat) (R : List Value), vi = .int .i64 i ∧ vj = .int .i64 j ∧ i = (stay C (fs.take j)).length ∧ i < j ∧ j ≤ fs.length ∧ wr.ownsRow base 62 1 (.slice (some ⟨g, 0, none⟩) fs.length cv) fs.length R ∧ R.take i = (stay C (fs.take j)).map fptr ∧ R.drop j = (fs.drop j).map fptr ∧ Keeps [g] w wr) (fun _ vj _ _ => fs.length - (intOf vj).toNat)
    case atStart =>
      refine ⟨k0, k0 + 1, fs.map fptr, rfl, by go_num, ?_, by omega, by omega, HR.out, ?_, ?_, Keeps.refl _ _⟩
      · rw [HH.out, List.length_take]; omega
      · rw [HH.out, List.map_take]
      · rw [List.map_drop]
    case round =>
      obtain ⟨i, j, R, rfl, rfl, hi, hij, hj, hown, htk, hdr, hk⟩ := hrel
      have hBg : g ≠ B := fun e => hB (by rw [e]; rfl)
      have hMg : g ≠ M := fun e => hM (by rw [e]; rfl)
      have hSr : SetBox wr B M C := HS.out.keep hk (by simpa using Ne.symm hBg) (by simpa using Ne.symm hMg) (fun f hf => by simp; exact fun e => hCs f hf (by rw [e]; rfl))
      have hRl : R.length = fs.length := by simpa using hown.1
      by_cases hlt : j < fs.length
      · obtain ⟨f, hf⟩ : ∃ f, fs[j]? = some f := ⟨fs[j], by simp [hlt]⟩
        have hmem := List.mem_of_getElem? hf
        have hRj : R[j]? = some (fptr f) := by
          have h1 := congrArg (·[0]?) hdr
          simp only [List.getElem?_drop, Nat.add_zero, List.getElem?_map, hf, Option.map_some] at h1
          exact h1
        have hcell := ownsRow_cell hown j (fptr f) hRj
        have HDf := Lib.hid (del1 hSr ((HFS.out f hmem).keep hk (by simp; exact fun e => hfs f hmem (by rw [e]; rfl))))
        have hdr' : R.drop (j + 1) = (fs.drop (j + 1)).map fptr := by
          rw [← List.drop_drop, hdr, ← List.map_drop, List.drop_drop]
        have HO := Lib.hid hown
        have HTk := Lib.hid htk
        have HDr := Lib.hid hdr'
        have HKr := Lib.hid hk
        have HI' := Lib.hid hi
        have HF := Lib.hid hf
        clear hown htk hdr hdr' hk hSr hf hRj hi
        cases hc : C.contains f
        · have HM := Lib.hid (stay_miss HF.out hc)
          rw [hc] at HDf
          clear hc
          go_wp2_with (go_at_call 40; (with_reducible refine HDf.out.mono ?_); rintro e w' ⟨rfl, rfl⟩)
          go_roundw
          case rel => exact ⟨i, j + 1, R, rfl, by go_num, by rw [HM.out]; exact HI'.out, by omega, by omega, HO.out, by rw [HM.out]; exact HTk.out, HDr.out, HKr.out⟩
          case measure => simp [intOf]; omega
        · have HM := Lib.hid (stay_hit HF.out hc)
          rw [hc] at HDf
          clear hc
          have hcell2 : ∃ u, wr.cell? ⟨g, i, none⟩ = some u := by
            obtain ⟨u, hu⟩ : ∃ u, R[i]? = some u := ⟨R[i]'(by omega), by simp⟩
            exact ⟨u, ownsRow_cell HO.out i u hu⟩
          obtain ⟨u, hcu⟩ := hcell2
          have hfz := ownsRow_frozen HO.out i
          have HS2 := Lib.hid (ownsRow_set HO.out i (fptr f))
          have HK2 : Hid (Keeps [g] w (wr.setCell ⟨g, i, none⟩ (fptr f))) := HKr.out.setCell _ _ fun _ => by simp
          have hil : i < fs.length := by omega
          go_wp2_with (go_at_call 40; (with_reducible refine HDf.out.mono ?_); rintro e w' ⟨rfl, rfl⟩)
          go_roundw
          case rel =>
            refine ⟨i + 1, j + 1, R.set i (fptr f), by go_num, by go_num, ?_, by omega, by omega, HS2.out, ?_, ?_, HK2.out⟩
            · rw [HM.out, List.length_append, ← HI'.out]; rfl
            · rw [HM.out, List.map_append, ← HTk.out, List.take_add_one, List.getElem?_set_self (by omega), List.take_set_of_le (Nat.le_refl _)]; rfl
            · rw [List.drop_set_of_lt (by omega)]; exact HDr.out
          case measure => simp [intOf]; omega
      · obtain rfl : j = fs.length := by omega
        have hi2 : i = (stay C fs).length := by rw [hi, List.take_length]
        rw [List.take_length] at htk
        have hcl : ∀ (W : World), W = wr → ∀ ty, (Builtin.clear_ #[57] ty #[.slice (some ⟨g, i, none⟩) (fs.length - i) (cv - i)]).run Try.prog W = .ok (.tuple #[]) (W.setCells g i (List.replicate (fs.length - i) (.pointer none))) := fun W e ty => by
          subst e
          refine Lib.run_clear_slice _ 57 62 ty (.pointer none) Try.underlying57 (fun w => zero62 w) rfl rfl g i _ _ (by omega) (fun t ht => ?_) (fun t _ => ownsRow_frozen hown _)
          obtain ⟨u, hu⟩ : ∃ u, R[i + t]? = some u := ⟨R[i + t]'(by omega), by simp⟩
          rw [ownsRow_cell hown (i + t) u hu]; rfl
        have hcl' := hcl wr rfl
        obtain ⟨xs', hx1, hx2⟩ := ownsRow_setCells (List.replicate (fs.length - i) (.pointer none)) i wr R hown
        have HX := Lib.hid (ownsRow_take hx1 (show i ≤ fs.length by omega))
        rw [hx2, htk] at HX
        have HKf := Lib.hid (Keeps.setCells (X := [g]) (g := g) (by simp) (List.replicate (fs.length - i) (.pointer none)) i wr hk)
        have hil : i < fs.length := by omega
        have HI2 := Lib.hid hi2
        clear hcl hx1 hx2 hown htk hdr hk hSr hi hi2
        go_wp2_with fail
        go_ret
        refine ⟨_, rfl, ?_, rfl, HKf.out⟩
        rw [← HI2.out]
        exact HX.out
end Go.Proofs.Ytebkgkaihjoamaa
