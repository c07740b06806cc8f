/- The contract of concordancelaw4.awake. -/
import Derived.Test.YtebkgkaihjoamaaReadX
import Derived.Lib.SlBytesConst
namespace Go.Proofs.Ytebkgkaihjoamaa
open Go.RowKit Go.Proofs

theorem eql_disk_nil (w : World) (a : Option Addr) : (binOp .eql 23 (.pointer a) (.pointer none)).run Try.prog w = .ok (.bool a.isNone) w := by
  have h : ∀ d : Nat, (Op.equalIn (d + 1) 23 (.pointer a) (.pointer none)).run Try.prog w = .ok a.isNone w := fun d => by
    cases a <;> simp [Op.equalIn, run_underlying Try.underlying23]
  simp only [binOp]
  simp [Op.equal, Op.maxDepth, h 9999]
theorem eql_disk_some (w : World) (a : Addr) : (binOp .eql 23 (.pointer (some a)) (.pointer none)).run Try.prog w = .ok (.bool false) w := eql_disk_nil w (some a)
/-- a block that is new can be read, whatever its mark -/
theorem reads_new (w : World) (cs : Array Value) (t : TypeId) (fr : Nat × Nat) (c : Nat) : Reads (w.alloc (.cells cs t fr)) (.slice (some ⟨w.heap.size, 0, none⟩) cs.toList.length c) cs.toList :=
  .inr ⟨w.heap.size, 0, c, rfl, by simp, World.news_of_block (t := t) (fr := fr) (by
    show (w.heap.push _)[w.heap.size]? = _
    simp)⟩
theorem crashed_con (S : St) (m : Nat → Nat) (now : DataW Unit) (Cx : List Nat) (f : Nat) : ((S.crashed m now Cx).con f).1 = (S.con f).1.take (m f) := by
  show ((S.con f).1.take (m f)).take ((S.con f).1.take (m f)).length = _
  rw [List.take_length]
theorem sumD_one (k : Lit) (f : Nat) (len : Nat → Nat) : sumD (.map [(k, litF f)]) len = len f := by
  simp [sumD, sumLeft, lenD_litF]
theorem put_one (k : Lit) (f : Nat) : (DataW.map []).put k (litF f) = .map [(k, litF f)] := rfl


set_option maxRecDepth 100000 in
set_option maxHeartbeats 1000000 in
theorem awake_any (w : World) : Calls Try.prog 18 #[] w fun e w' => e = .returned (.bool true) ∧ Below w.heap.size w w' := by
  have hnil := eql_disk_some
  have kc := fun (w : World) (C : Array Value) (n c : Nat) => Lib.run_convert_bytes_const (P := Try.prog) w 29 5 C n c Try.underlying29 Try.underlying5
  go_enter Try.func18, Try.ntmps18
  go_wp2_with fail
  refine (new_dx w 1000 (by omega)).mono ?_
  rintro e w1 ⟨rfl, h1, b1⟩
  have H1 := Lib.hid h1
  have HB1 := Lib.hid b1
  clear h1 b1
  go_wp2_with fail
  refine (create_dx H1.out (St.new_plain _) (by simp [St.new]) ⟨#[97]⟩ (by decide) (by decide) rfl (by simp [St.new, Maps.size])).mono ?_
  rintro e w2 ⟨rfl, b2, f, hf, h2⟩
  have hX2 : DX w.heap.size (w2.alloc (.cells #[.int .u8 120, .int .u8 121, .int .u8 122] 5 (3, 4))) (w.heap.size + 1 + 1) ((St.new 1000).made ⟨#[97]⟩ f) := h2.keep ((Keeps.refl _ w2).alloc _)
  have hP2 : ((St.new 1000).made ⟨#[97]⟩ f).Plain := ⟨rfl, rfl, by simp [St.made, St.new]⟩
  have HApp := Lib.hid (append_dx (S1 := ((St.new 1000).made ⟨#[97]⟩ f).count) hX2 ⟨#[97]⟩ (by decide) (by decide) f rfl (by simp [St.made, St.count, St.new]) _ [120, 121, 122] (reads_new w2 #[.int .u8 120, .int .u8 121, .int .u8 122] 5 (3, 4) 3)
    (by simp [Value.rowBlock]; have := H1.out.base_le.2.2; have := b2.size; omega) _ (handed_plain hX2 hP2 (by simp [St.made, St.new]) _) rfl (by simp [St.made, St.count]) (by simp [St.made, St.count, St.new]))
  have HB2 := Lib.hid b2
  clear h2 b2 hX2
  go_wp2_with fail
  refine HApp.out.mono ?_
  rintro e w3 ⟨v, rfl, b3, h3⟩
  have hu : ((St.new 1000).made ⟨#[97]⟩ f).count.used = 0 := by
    show sumD ((DataW.map []).put _ (litF f)) _ = 0
    rw [put_one, sumD_one]
    simp [St.made, St.count]
  rcases h3 with ⟨h3, _⟩ | ⟨_, rfl, h3⟩
  · exfalso
    rw [hu] at h3
    simp [St.made, St.count, St.new] at h3
  have HB3 := Lib.hid b3
  generalize hS2 : ((St.new 1000).made ⟨#[97]⟩ f).count.file f (((((St.new 1000).made ⟨#[97]⟩ f).count).con f).1 ++ [120, 121, 122]) ((((St.new 1000).made ⟨#[97]⟩ f).count).con f).2 = S2 at h3
  have hP3 : S2.Plain := by rw [← hS2]; exact ⟨rfl, rfl, by simp [St.made, St.new, St.count, St.file]⟩
  have hc3 : S2.c = 2 := by rw [← hS2]; rfl
  have hfs3 : S2.fs = [f] := by rw [← hS2]; rfl
  have hnm3 : S2.nm = .map [(skey ⟨#[97]⟩, litF f)] := by rw [← hS2]; rfl
  have hcon3 : S2.con f = ([120, 121, 122], 0) := by rw [← hS2]; simp [St.file, St.count, St.made]
  clear hS2 b3 hu HApp
  have HSy := Lib.hid (syncdir_dx (S1 := S2.count) h3 _ (handed_plain h3 hP3 (by omega) _))
  clear h3
  go_wp2_with fail
  refine HSy.out.mono ?_
  rintro e w4 ⟨v, rfl, b4, rfl, h4⟩
  have HB4 := Lib.hid b4
  have k5 : Keeps [] w4 (w4.alloc (.cells #[.int .i64 2] 3)) := (Keeps.refl _ w4).alloc _
  have hX5 := h4.keep k5
  have hfl : f < w4.heap.size := by
    obtain ⟨_, h, _⟩ := h4.cells (f := f) (by show f ∈ S2.fs; rw [hfs3]; simp)
    exact (Array.getElem?_eq_some_iff.1 h).1
  have HCr := Lib.hid (crash_dx hX5 (.slice (some ⟨w4.heap.size, 0, none⟩) 1 1) (.slice none 0 0) [2] [] (.inl ⟨reads_new w4 #[.int .i64 2] 3 (0, 0) 1,
    fun g hg hm => by
      have e1 : w4.heap.size = g := by simpa [Value.rowBlock] using hg
      have hm' : g ∈ S2.fs := hm
      rw [hfs3] at hm'
      simp at hm'
      omega⟩) (.inr ⟨rfl, _, _, rfl⟩) (fun p n c e => by cases e; omega))
  have hbb := h4.base_le'.1
  clear h4 b4 hX5 k5
  go_wp2_with fail
  refine HCr.out.mono ?_
  rintro e w5 ⟨⟨_, rfl⟩, b5, m, Cx, es, hm, _, hex, hnow, hCx, h5⟩
  have hes : es = [(skey ⟨#[97]⟩, litF f)] := by
    have h1 : DataW.map es = S2.nm := hnow.symm
    rw [hnm3] at h1
    cases h1
    rfl
  have hmf : m f = 2 := by
    have := hex f 2 [] [(skey ⟨#[97]⟩, litF f)] hfs3 rfl hnm3 ⟨_, List.mem_singleton.2 rfl, rfl⟩ (by show (S2.con f).2 < (S2.con f).1.length; rw [hcon3]; decide)
    rw [this]
    show cutAt (S2.con f).2 (S2.con f).1.length 2 = 2
    rw [hcon3]
    decide
  subst hes
  have hcl : ((S2.count.lasting.crashed m (.map [(skey ⟨#[97]⟩, litF f)]) Cx).con f).1 = [120, 121] := by
    rw [crashed_con]
    show (S2.con f).1.take (m f) = _
    rw [hcon3, hmf]
    rfl
  have HRd := Lib.hid (read_dx h5 rfl ⟨#[97]⟩ (by decide) (by decide) f rfl 0 9)
  rw [hcl] at HRd
  have hcc : (S2.count.lasting.crashed m (.map [(skey ⟨#[97]⟩, litF f)]) Cx).c = 3 := by show S2.c + 1 = 3; omega
  have HB5 := Lib.hid b5
  have H5 := Lib.hid h5
  clear h5 b5 hex hnow hCx hm HCr HSy
  go_wp2_with fail
  refine HRd.out.mono ?_
  rintro e w6 ⟨v6, rfl, hr6, k6⟩
  have hst := reads_string hr6
  have HCa := Lib.hid (calls_dx (H5.out.keep k6))
  rw [hcc] at HCa
  have HK6 := Lib.hid k6
  clear hr6 k6
  go_wp2_with fail
  refine HCa.out.mono ?_
  rintro e w7 ⟨rfl, rfl⟩
  go_wp2
  go_ret
  have l1 := HB1.out.size
  have l2 := HB2.out.size
  have l3 := HB3.out.size
  have l4 := HB4.out.size
  have l5 := HB5.out.size
  rw [World.size_alloc] at l3 l5
  refine ⟨rfl, HB1.out.trans (HB2.out.trans ((((Keeps.refl [] w2).alloc _).below (by omega) (by simp)).trans (HB3.out.trans (HB4.out.trans ((((Keeps.refl [] w4).alloc _).below (by omega) (by simp)).trans (HB5.out.trans (HK6.out.below (by omega) (by simp))))))))⟩
end Go.Proofs.Ytebkgkaihjoamaa
