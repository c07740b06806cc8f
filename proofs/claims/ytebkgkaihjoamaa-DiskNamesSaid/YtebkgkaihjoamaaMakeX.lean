/- New and Create, in the words of the disk's state. -/
import Derived.Test.YtebkgkaihjoamaaState
namespace Go.Proofs.Ytebkgkaihjoamaa
open Go.RowKit Go.Proofs

theorem size_put_le (D : DataW Unit) (k : Lit) (d : DataW Unit) : Maps.size (D.put k d) ≤ Maps.size D + 1 := by
  cases D with
  | map es =>
    simp only [DataW.put, Maps.size]
    rw [(WideShapes.insert_perm _ _).length_eq, List.length_cons]
    have := List.length_filter_le (fun p : Lit × DataW Unit => !p.1.sameKey k) es
    omega
  | _ => simp [DataW.put]
theorem size_del_le (D : DataW Unit) (k : Lit) : Maps.size (D.del k) ≤ Maps.size D := by
  cases D with
  | map es =>
    simp only [DataW.del, Maps.size]
    exact List.length_filter_le _ _
  | _ => simp [DataW.del]
theorem Leads.put {D : DataW Unit} {fs : List Nat} (h : Leads D fs) (k : Lit) (f : Nat) (hf : f ∈ fs) : Leads (D.put k (litF f)) fs := by
  obtain ⟨es, rfl, h⟩ := h
  refine ⟨_, rfl, fun p hp => ?_⟩
  rcases ChangeMaps.mem_insert_iff.1 hp with rfl | hp
  · exact ⟨f, hf, rfl⟩
  · exact h p ((List.mem_filter.1 hp).1)
theorem Leads.del {D : DataW Unit} {fs : List Nat} (h : Leads D fs) (k : Lit) : Leads (D.del k) fs := by
  obtain ⟨es, rfl, h⟩ := h
  exact ⟨_, rfl, fun p hp => h p ((List.mem_filter.1 hp).1)⟩
theorem Leads.none (fs : List Nat) : Leads (.map []) fs := ⟨[], rfl, by simp⟩
theorem DAt.tight {base D tn nn nl N L : Nat} {w : World} {q c st fl fe : Int} {dead : Bool} {fs : List Nat} {nm ls : DataW Unit} {tv : List Value} {con : Nat → List Nat × Nat} {vf vt : Value} {vb : Nat → Value}
    (h : DAt base w D q c st fl fe dead fs nm ls tn tv con vf N L vt nn nl vb) : DAt base w D q c st fl fe dead fs nm ls tn tv con vf N L vt (Maps.size nm) (Maps.size ls) vb :=
  { h with n := h.n.tight, l := h.l.tight }

/-- a new disk -/
def St.new (q : Int) : St := ⟨q, 0, -1, 0, 0, false, [], .map [], .map [], [], fun _ => ([], 0)⟩
theorem St.new_plain (q : Int) : (St.new q).Plain := ⟨rfl, rfl, by simp [St.new]⟩
theorem new_dx (w : World) (q : Int) (hq : 0 ≤ q) : Calls Try.prog 12 #[.int .i64 q] w fun e w' => e = .returned (.pointer (some ⟨w.heap.size + 1 + 1, 0, none⟩)) ∧ DX w.heap.size w' (w.heap.size + 1 + 1) (St.new q) ∧ Below w.heap.size w w' := by
  refine (new_any w q hq).mono ?_
  rintro e w' ⟨rfl, h1, h2, h3, h4, h5⟩
  refine ⟨rfl, ⟨⟨_, _, _, _, 0, 0, fun _ => .slice none 0 0, h1, World.ownsRow_nil _ _ _ _, World.ownsRow_nil _ _ _ _, h2, h3, by omega, by omega, by omega, by omega, by omega, fun f hf => absurd hf (by simp [St.new]), List.nodup_nil, fun f hf => absurd hf (by simp [St.new])⟩,
    Leads.none _, Leads.none _, fun t ht => absurd ht (by simp [St.new]), fun f hf => absurd hf (by simp [St.new]), Nat.zero_le _, Nat.zero_le _, Nat.zero_le _, Nat.zero_le _⟩, ⟨h4.os, h4.tape, h4.output, by omega, fun k hk => h4.block k hk (by simp)⟩⟩

/-- a file was created -/
def St.made (S : St) (s : ByteArray) (f : Nat) : St :=
  { S with c := S.c + 1, fs := S.fs ++ [f], nm := S.nm.put (skey s) (litF f), ts := S.ts ++ [.make s f], con := fun g => if g = f then ([], 0) else S.con g }
theorem create_dx {base D : Nat} {w : World} {S : St} (h : DX base w D S) (p : S.Plain) (hc : S.c < 4000) (s : ByteArray) (hs : s.size ≤ maxLen) (ok : nameOk s = true) (hmiss : fileOf S.nm s.data.toList = noFile) (hlen : Maps.size S.nm < 64) :
    Calls Try.prog 13 #[.pointer (some ⟨D, 0, none⟩), .string s] w fun e w' => e = .returned (.int .i64 0) ∧ Below base w w' ∧ ∃ f, f ∉ S.fs ∧ DX base w' D (S.made s f) := by
  obtain ⟨vf, N, L, vt, nn, nl, vb, h1⟩ := h.at_
  have h2 := h1.tight
  rw [p.dead, p.fl] at h2
  have hsf := h.sf
  have hsl := h.sl
  refine (create_ok h2 s hs ok hmiss hlen (by omega) (by omega) (by omega) ⟨by omega, by omega⟩ p.st).mono ?_
  rintro e w' ⟨v, rfl, rfl, f, vf', vt', hf, hB, hA⟩
  have hnew : f ∉ S.fs := fun hm => by have := (Array.getElem?_eq_some_iff.1 (h1.f f hm).2.1).1; omega
  have e1 : (S.ts ++ [Turn.make s f]).length = S.ts.length + 1 := by simp
  have e2 : (S.ts ++ [Turn.make s f]).flatMap Turn.cells = S.ts.flatMap Turn.cells ++ [.int .i64 0, .string s, .string ⟨#[]⟩, fptr f] := by simp [Turn.cells]
  have e3 : (fun g => if g = f then (([], 0) : List Nat × Nat) else ((S.con g).1.map UInt8.toNat, (S.con g).2)) = fun g => ((((S.made s f).con g).1.map UInt8.toNat, ((S.made s f).con g).2) : List Nat × Nat) := by
    funext g
    simp only [St.made]
    split <;> rfl
  rw [e3, ← e1, ← e2] at hA
  have e4 : S.dead = false := p.dead
  have e5 : S.fl = 0 := p.fl
  have hA' : ∃ vf N L vt nn nl vb, DAt base w' D (S.made s f).q (S.made s f).c (S.made s f).st (S.made s f).fl (S.made s f).fe (S.made s f).dead (S.made s f).fs (S.made s f).nm (S.made s f).ls (S.made s f).ts.length ((S.made s f).ts.flatMap Turn.cells) (fun g => (((S.made s f).con g).1.map UInt8.toNat, ((S.made s f).con g).2)) vf N L vt nn nl vb := by
    refine ⟨vf', N, L, vt', Maps.size S.nm + 1, Maps.size S.ls, fun g => if g = f then .slice none 0 0 else vb g, ?_⟩
    have h5 : (S.made s f).dead = false := e4
    have h6 : (S.made s f).fl = 0 := e5
    rw [h5, h6]
    exact hA
  refine ⟨rfl, hB, f, hnew, hA', ?_, ?_, ?_, ?_, ?_, ?_, ?_, ?_⟩
  · exact (h.vn.mono (fun g hg => List.mem_append_left _ hg)).put _ f (by simp)
  · exact h.vl.mono (fun g hg => List.mem_append_left _ hg)
  · intro t ht
    rcases List.mem_append.1 ht with ht | ht
    · exact ⟨(h.vt t ht).1, fun a g e => List.mem_append_left _ ((h.vt t ht).2 a g e)⟩
    · obtain rfl := List.mem_singleton.1 ht
      exact ⟨hs, fun a g e => by cases e; simp [St.made]⟩
  · intro g hg
    show (if g = f then (([], 0) : List UInt8 × Nat) else S.con g).2 ≤ _ ∧ (if g = f then (([], 0) : List UInt8 × Nat) else S.con g).1.length ≤ _
    split
    · simp_all [St.made]
    · rename_i hne
      rcases List.mem_append.1 hg with hg | hg
      · have := h.bl g hg
        simpa [St.made, hne] using this
      · exact absurd (List.mem_singleton.1 hg) hne
  · show (S.fs ++ [f]).length ≤ S.c + 1
    simp; omega
  · have := size_put_le S.nm (skey s) (litF f)
    have := h.sn
    show Maps.size (S.nm.put (skey s) (litF f)) ≤ S.c + 1
    omega
  · show Maps.size S.ls + (S.ts ++ [Turn.make s f]).length ≤ S.c + 1
    simp; omega
  · exact hc
end Go.Proofs.Ytebkgkaihjoamaa
