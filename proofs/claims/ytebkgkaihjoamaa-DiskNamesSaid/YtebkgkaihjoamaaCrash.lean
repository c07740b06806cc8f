/- The contract of disk.Disk's Crash. -/
import Derived.Test.YtebkgkaihjoamaaIt
import Derived.Test.YtebkgkaihjoamaaDel
import Derived.Test.YtebkgkaihjoamaaLead
import Derived.Test.YtebkgkaihjoamaaCrashP
import Derived.Test.YtebkgkaihjoamaaFail
import Derived.Test.YtebkgkaihjoamaaSyncD
import Derived.Shelf.Abstract
namespace Go.Proofs.Ytebkgkaihjoamaa
open Go.RowKit Go.Proofs Go.Shelf

attribute [local go_sem] Oper.semAt_some

theorem KpIt.trans {base B3 M : Nat} {C : List Nat} {vf : Value} {fs : List Nat} {len0 last0 : Nat → Nat} {A B X : World} (h : KpIt base B3 M C vf fs len0 last0 A B) (k : KpIt base B3 M C vf fs len0 last0 B X) : KpIt base B3 M C vf fs len0 last0 A X := fun i => k (h i)
theorem KpIt.turn {base B3 M : Nat} {C : List Nat} {vf : Value} {fs : List Nat} {len0 last0 : Nat → Nat} {w : World} (hB : B3 < w.heap.size) (hM : M < w.heap.size) (hv : ∀ k, vf.ownBlock = some k → k < w.heap.size) (hf : ∀ f ∈ fs, f < w.heap.size)
    (W : World) (l : Nat) (o o' : Obj) (hl : w.heap.size ≤ l) (_ : W.heap[l]? = some o) (_ : o.isCells = false) (_ : o.isWalk = false) : KpIt base B3 M C vf fs len0 last0 W (W.putObj l o') := fun h => by
  have hb : ∀ k, k < w.heap.size → (W.putObj l o').heap[k]? = W.heap[k]? := fun k hk => World.putObj_heap_other (by omega)
  exact h.blocks (hb _ hB) (hb _ hM) (fun k hk => hb _ (hv k hk)) (fun f hff => hb _ (hf f hff))

/-- ints, bools as values -/
def intsV (l : List Int) : List Value := l.map fun x => Value.int .i64 x
def boolsV (l : List Bool) : List Value := l.map fun x => Value.bool x
/-- where a file is cut that has len bytes of which last are lasting, by the number n -/
def cutAt (last len : Nat) (n : Int) : Nat := last + (n.tmod ((len - last + 1 : Nat) : Int) % ((len - last + 1 : Nat) : Int)).toNat
theorem Reads.lt {w : World} {v : Value} {xs : List Value} (h : Reads w v xs) : ∀ g, v.rowBlock = some g → g < w.heap.size := fun g hg => by
  rcases h with ⟨rfl, _⟩ | ⟨g', o, cap, rfl, hl, _⟩
  · cases hg
  · cases hg; exact hl
/-- a slice that a call is handed: it can be read, and lies in no block of X; or it is empty -/
def Arg (w : World) (X : List Nat) (v : Value) (xs : List Value) : Prop := (Reads w v xs ∧ ∀ g, v.rowBlock = some g → g ∉ X) ∨ (xs = [] ∧ ∃ p c, v = .slice p 0 c)
theorem Arg.shape {w : World} {X : List Nat} {v : Value} {xs : List Value} (h : Arg w X v xs) : ∃ p cap, v = .slice p xs.length cap := by
  rcases h with ⟨h, _⟩ | ⟨rfl, p, c, rfl⟩
  · exact h.shape
  · exact ⟨p, c, rfl⟩
/-- what holds ahead of each round of the loop over open files -/
structure CrashI (S : St) (files : List Int) (B4 : Nat) (w2 : World) (pre : List {f // f ∈ S.fs}) (W : World) : Prop where
  k : Keeps (B4 :: S.fs) w2 W
  v : ∃ v', Boxed W B4 46 v' ∧ Arg w2 (B4 :: S.fs) v' (intsV (files.drop pre.length)) ∧ ∀ p n c, v' = .slice p n c → n ≤ c
  m : ∃ m : Nat → Nat, (∀ f ∈ S.fs, (S.con f).2 ≤ m f ∧ m f ≤ (S.con f).1.length ∧ ∀ p c, w2.heap[f]? = some (.cells #[.slice p (S.con f).1.length c, .int .i64 (S.con f).2] 64 (0, 0)) → W.heap[f]? = some (.cells #[.slice p (m f) c, .int .i64 (S.con f).2] 64 (0, 0))) ∧
    (files = [] → ∀ f ∈ S.fs, m f = (S.con f).1.length) ∧ (pre = [] → ∀ f ∈ S.fs, m f = (S.con f).1.length) ∧ (∀ x n rest, pre = [x] → files = n :: rest → m x.1 = cutAt (S.con x.1).2 (S.con x.1).1.length n)
theorem crashI_own (S : St) (files : List Int) (B4 : Nat) (w2 : World) (hB : B4 < w2.heap.size) (hf : ∀ f ∈ S.fs, f < w2.heap.size) : OwnFrom w2.heap.size (CrashI S files B4 w2) := fun pre W W' row hs hg hr => by
  have hb : ∀ k, k < w2.heap.size → W'.heap[k]? = W.heap[k]? := fun k hk => hg.block k (Nat.lt_of_lt_of_le hk hs.k.size) fun e => by have := (hr k e.symm).1; omega
  refine ⟨hs.k.grown hg (fun k e hk => by have := (hr k e).1; omega), ?_, ?_⟩
  · obtain ⟨v', h1, h2, h3⟩ := hs.v
    exact ⟨v', (hb _ hB).trans h1, h2, h3⟩
  · obtain ⟨m, h1, h2⟩ := hs.m
    exact ⟨m, fun f hff => ⟨(h1 f hff).1, (h1 f hff).2.1, fun p c h => (hb f (hf f hff)).trans ((h1 f hff).2.2 p c h)⟩, h2⟩

theorem ownsRow_capv {w : World} {base n c : Nat} {p : Option Addr} {e : TypeId} {xs : List Value} (h : w.ownsRow base e 1 (.slice p n c) n xs) : n ≤ c := by
  rcases h.2 with ⟨h0, h1⟩ | ⟨g', cap', cur, hv, hg, hh, hn, _⟩
  · omega
  · simp at hv
    obtain ⟨rfl, rfl⟩ := hv
    exact hn
theorem cut_eq (last len : Nat) (n : Int) (h : last ≤ len) : ∃ K : Nat, (last : Int) + n.tmod ((len : Int) - (last : Int) + 1) % ((len : Int) - (last : Int) + 1) = (K : Int) ∧ K = cutAt last len n ∧ last ≤ K ∧ K ≤ len ∧
    -((len : Int) - (last : Int) + 1) < n.tmod ((len : Int) - (last : Int) + 1) ∧ n.tmod ((len : Int) - (last : Int) + 1) < (len : Int) - (last : Int) + 1 ∧
    0 ≤ n.tmod ((len : Int) - (last : Int) + 1) % ((len : Int) - (last : Int) + 1) ∧ n.tmod ((len : Int) - (last : Int) + 1) % ((len : Int) - (last : Int) + 1) < (len : Int) - (last : Int) + 1 := by
  have hz : ((len - last + 1 : Nat) : Int) = (len : Int) - (last : Int) + 1 := by omega
  unfold cutAt
  rw [hz]
  generalize hZ : (len : Int) - (last : Int) + 1 = Z
  have hZ0 : 0 < Z := by omega
  have a1 := Int.lt_tmod_of_pos n hZ0
  have a2 := Int.tmod_lt_of_pos n hZ0
  have b1 : 0 ≤ n.tmod Z % Z := Int.emod_nonneg _ (by omega)
  have b2 := Int.emod_lt_of_pos (n.tmod Z) hZ0
  refine ⟨_, ?_, rfl, by omega, by omega, a1, a2, b1, b2⟩
  omega
theorem Keeps.trans' {X Y : List Nat} {a b c : World} (h : Keeps X a b) (k : Keeps Y b c) (hY : ∀ y ∈ Y, a.heap.size ≤ y ∨ y ∈ X) : Keeps X a c :=
  ⟨k.os.trans h.os, k.tape.trans h.tape, k.output.trans h.output, Nat.le_trans h.size k.size, fun i hi hx => (k.block i (Nat.lt_of_lt_of_le hi h.size) fun hy => by rcases hY i hy with h1 | h1; omega; exact hx h1).trans (h.block i hi hx)⟩
theorem DiskIs.nmap {w : World} {D : Nat} {q c st fl fe : Int} {dead : Bool} {vf : Value} {N L : Nat} {vt : Value} (h : DiskIs w D q c st fl fe dead vf N L vt) (N' : Nat) : DiskIs (w.setCell ⟨D, 7, none⟩ (.map (some N'))) D q c st fl fe dead vf N' L vt := cells_set h 7 _
theorem DiskIs.same {w : World} {D : Nat} {q c st fl fe q' c' st' fl' fe' : Int} {dead dead' : Bool} {vf vf' : Value} {N L N' L' : Nat} {vt vt' : Value} (h : DiskIs w D q c st fl fe dead vf N L vt) (h' : DiskIs w D q' c' st' fl' fe' dead' vf' N' L' vt') : vf = vf' := by
  have h1 : w.cell? ⟨D, 6, none⟩ = some vf := h.cell 6 _ rfl
  have h2 : w.cell? ⟨D, 6, none⟩ = some vf' := h'.cell 6 _ rfl
  rw [h1] at h2
  simpa using h2
theorem Leads.find {D : DataW Unit} {fs : List Nat} (h : Leads D fs) (s : List UInt8) : fileOf D s = noFile ∨ ∃ f ∈ fs, fileOf D s = litF f := by
  obtain ⟨es, rfl, h⟩ := h
  unfold fileOf DataW.atKey
  simp only
  cases hx : es.find? (fun p => p.1.sameKey (.string s)) with
  | none => exact .inl rfl
  | some p =>
    obtain ⟨g, hg, h2⟩ := h p (List.mem_of_find?_eq_some hx)
    exact .inr ⟨g, hg, h2⟩
theorem Leads.lead {D : DataW Unit} {fs : List Nat} (h : Leads D fs) (t : Turn) (ht : ∀ s f, t = .make s f → f ∈ fs) : Leads (t.lead D) fs := by
  cases t with
  | make s f => exact h.put _ f (ht s f rfl)
  | drop s => exact h.del _
  | move a b =>
    simp only [Turn.lead]
    rcases h.find a.data.toList with e | ⟨f, hf, e⟩
    · rw [if_pos e]; exact h
    · rw [if_neg (by rw [e]; simp), e]; exact (h.del _).put _ f hf
theorem Leads.now : ∀ {ts : List Turn} {bs : List Bool} {D : DataW Unit} {fs : List Nat}, Leads D fs → (∀ t ∈ ts, ∀ s f, t = .make s f → f ∈ fs) → Leads (nowOf ts bs D) fs
  | [], _, _, _, h, _ => h
  | t :: ts, [], D, fs, h, ht => Leads.now (ts := ts) (h.lead t (ht t (by simp))) fun t' h' => ht t' (by simp [h'])
  | t :: ts, b :: bs, D, fs, h, ht => by
    unfold nowOf
    refine Leads.now (ts := ts) ?_ fun t' h' => ht t' (by simp [h'])
    split
    · exact h.lead t (ht t (by simp))
    · exact h
theorem DX.keepOff {base D d : Nat} {w w' : World} {S : St} (h : DX base w D S) (k : Keeps [d] w w') (hc : ∀ cs t fr, w.heap[d]? ≠ some (.cells cs t fr)) (hm : ∀ es c, w.heap[d]? ≠ some (.map es c)) : DX base w' D S := by
  obtain ⟨vf, N, L, vt, nn, nl, vb, h1⟩ := h.at_
  have hX : ∀ j cs t fr, w.heap[j]? = some (.cells cs t fr) → j ∉ [d] := fun j cs t fr hj hmem => by
    obtain rfl := List.mem_singleton.1 hmem
    exact hc _ _ _ hj
  have hXr : ∀ {e : TypeId} {size n : Nat} {v : Value} {xs : List Value}, w.ownsRow base e size v n xs → ∀ j, v.ownBlock = some j → j ∉ [d] := fun hr j hj => by
    obtain ⟨cs, hcc⟩ := own_cells hr hj
    exact hX j cs _ _ hcc
  have hXm : ∀ {Nx n : Nat} {Dx : DataW Unit}, NamesAt w Nx n Dx → Nx ∉ [d] := fun hn hmem => by
    obtain rfl := List.mem_singleton.1 hmem
    obtain ⟨es, cl, hb, _⟩ := hn
    exact hm _ _ hb
  exact { h with at_ := ⟨vf, N, L, vt, nn, nl, vb, k.disk h1.d (hX D _ _ _ h1.d), k.row h1.rf (hXr h1.rf), k.row h1.rt (hXr h1.rt), k.names h1.n (hXm h1.n), k.names h1.l (hXm h1.l), h1.ne, h1.bD, h1.bN, h1.bL, Nat.le_trans h1.bw k.size,
    fun f hf => ⟨(h1.f f hf).1, (k.block f (Array.getElem?_eq_some_iff.1 (h1.f f hf).2.1).1 (hX f _ _ _ (h1.f f hf).2.1)).trans (h1.f f hf).2.1, k.row (h1.f f hf).2.2 (hXr (h1.f f hf).2.2)⟩, h1.nd, h1.ap⟩ }
/-- what a Crash leaves: names are now; each file has m of its bytes; those that names lead to stay, and their bytes last -/
def St.crashed (S : St) (m : Nat → Nat) (now : DataW Unit) (Cx : List Nat) : St :=
  (((S.refile m fun f => (S.con f).2).renewed now).refile (fun f => ((S.con f).1.take (m f)).length) (fun f => if f ∈ Cx then ((S.con f).1.take (m f)).length else (S.con f).2)).kept Cx
/-- how Crash answers -/
def Crashed (base : Nat) (w : World) (D : Nat) (S : St) (files : List Int) (names : List Bool) (w' : World) : Prop :=
  Below base w w' ∧ ∃ m Cx es, (∀ f ∈ S.fs, (S.con f).2 ≤ m f ∧ m f ≤ (S.con f).1.length) ∧ (files = [] → ∀ f ∈ S.fs, m f = (S.con f).1.length) ∧
    (∀ a n rest es, S.fs = [a] → files = n :: rest → S.nm = .map es → (∃ p ∈ es, p.2 = litF a) → (S.con a).2 < (S.con a).1.length → m a = cutAt (S.con a).2 (S.con a).1.length n) ∧
    nowOf S.ts names S.ls = .map es ∧ (∀ g, g ∈ Cx ↔ ∃ p ∈ es, p.2 = litF g) ∧ DX base w' D (S.crashed m (.map es) Cx)
set_option maxRecDepth 100000 in
set_option maxHeartbeats 4000000 in
theorem crash_dx {base D : Nat} {w : World} {S : St} (h : DX base w D S) (vfiles vnames : Value) (files : List Int) (names : List Bool) (hfiles : Arg w S.fs vfiles (intsV files)) (hnames : Arg w S.fs vnames (boolsV names))
    (hcap : ∀ p n c, vfiles = .slice p n c → n ≤ c) :
    Calls Try.prog 15 #[.pointer (some ⟨D, 0, none⟩), vfiles, vnames] w fun e w' => (∃ v, e = .returned v) ∧ Crashed base w D S files names w' := by
  have hk1 : Keeps [] w (w.alloc (.cells #[vfiles] 46)) := (Keeps.refl [] w).alloc _
  have HB4 := Lib.hid (Boxed.new w 46 vfiles)
  have hX1 := h.keep hk1
  have HOp := Lib.hid (open_any hX1)
  have HK1 := Lib.hid hk1
  obtain ⟨pf, cf, rfl⟩ := hfiles.shape
  obtain ⟨pn, cn, rfl⟩ := hnames.shape
  have HFI := Lib.hid hfiles
  have HNA := Lib.hid hnames
  generalize hvf : Value.slice pf (intsV files).length cf = vfiles at *
  generalize hvn : Value.slice pn (boolsV names).length cn = vnames at *
  have hfn : ∀ (f : Fn) (A B : Array Value) (W : World), (binOp .eql 69 (.func f A B) .nilFunc).run Try.prog W = .ok (.bool false) W := fun _ _ _ _ => by kernel_rfl
  clear hk1 hX1 hfiles hnames
  have hmk : ∀ W : World, (Instr.makeMap 72 none).run Try.prog W = .ok (.map (some W.heap.size)) (W.alloc (.map #[] 0)) := fun _ => rfl
  refine callsIn_wide.1 (callsIn_of_wp_marks (n := 5) Try.func15 rfl trivial ?_ rfl)
  simp only [Try.ntmps15, List.size_toArray, List.length_cons, List.length_nil, Nat.reduceAdd, Nat.reduceSub, Array.replicate_succ, Array.replicate_zero, List.push_toArray, List.append_toArray, List.nil_append, List.cons_append]
  gi_wp2_with (refine ⟨trivial, ?_⟩; gi_at_call 37; refine (callsIn_wide.2 HOp.out).mono ?_; rintro e w2 ⟨B1, B3, M, C, rfl, hb1, hb3, hm, hB1, hB3, hset, hC, hnm, hk2⟩)
  have hX2 : DX base w2 D S := (h.keep HK1.out).keep hk2
  have hkw := HK1.out.trans hk2
  have hb4 := hk2.boxed HB4.out (by simp)
  obtain ⟨vf, N, L, vt, nn, nl, vb, hA2⟩ := hX2.at_
  have hwl : w.heap.size < w2.heap.size := hb4.lt
  have hfl : ∀ f ∈ S.fs, f < w2.heap.size := fun f hf => by
    obtain ⟨v, h1, _⟩ := hX2.cells hf
    exact (Array.getElem?_eq_some_iff.1 h1).1
  have hIt : ItAt base w2 B3 M C vf S.fs (fun f => (S.con f).1.length) (fun f => (S.con f).2) := ⟨hB3, hset, hA2.rf, fun f hf => by
    obtain ⟨v, h1, h2, _⟩ := hX2.cells hf
    obtain ⟨p, c, rfl⟩ := ownsRow_slice h2
    exact ⟨p, _, c, h1, Nat.le_refl _⟩⟩
  have hvfl : ∀ k, vf.ownBlock = some k → k < w2.heap.size := fun k hk => (hA2.rf.lt k hk).2
  have hsf := hX2.sf
  have hsc := hX2.sc
  have hbl := hX2.bl
  refine wpIn_rangeFunc_ownG rfl (by omega) (gf := 54) (lb := #[.pointer (some ⟨B1, 0, none⟩), .pointer (some ⟨B3, 0, none⟩)]) rfl trivial (enters_of Try.func54 (by kernel_rfl) rfl) (α := {f // f ∈ S.fs}) (encs := fun x => #[fptr x.1]) (N := S.fs.length) (w0 := w2)
    (Kp := KpIt base B3 M C vf S.fs (fun f => (S.con f).1.length) (fun f => (S.con f).2))
    (S := fun ys => ys.length ≤ S.fs.length ∧ ∀ f rest, S.fs = f :: rest → f ∈ C → (S.con f).2 < (S.con f).1.length → ∃ x ys', ys = x :: ys' ∧ x.1 = f) (Sp := fun _ => True)
    (fun l J Jx W hW hJ _ hY h0 => (open1_in 4 (by omega) l B1 B3 M D base C S.fs (fun f => (S.con f).1.length) (fun f => (S.con f).2) hC (by omega) (fun f hf => by have := hbl f hf; constructor <;> omega) J Jx S.q S.c S.st S.fl S.fe S.dead vf N L vt W hJ hY
      ((hW.block B1 hB1.lt).trans hB1) (hA2.d.of_block (hW.block D hA2.d.lt)) (hIt.blocks (hW.block B3 hB3.lt) (hW.block M hset.lt) (fun k hk => hW.block k (hvfl k hk)) (fun f hf => hW.block f (hfl f hf))) h0).mono fun e W' ⟨he, hor⟩ => ⟨he, hor.imp_left fun ⟨ys, ⟨y1, y2⟩, y3⟩ => ⟨ys, ⟨y1, fun f rest e1 e2 e3 => y2 f rest e1 e2 (by
        obtain ⟨v, h1, h2, _⟩ := hX2.cells (show f ∈ S.fs by rw [e1]; simp)
        obtain ⟨p, c, rfl⟩ := ownsRow_slice h2
        exact ⟨p, c, (hW.block f (Array.getElem?_eq_some_iff.1 h1).1).trans h1⟩) e3⟩, y3⟩⟩)
    KpIt.trans (KpIt.turn hB3.lt hset.lt hvfl hfl) (Below.refl _ _) (fun _ => rfl)
    (CrashI S files w.heap.size w2) (fun _ _ _ => False) (crashI_own S files w.heap.size w2 hwl hfl) (fun _ _ _ _ _ hs _ _ => hs.elim) ?h0
    (fun x => { tmps := List.toArray ((Value.pointer (some ⟨D, 0, none⟩)) :: vfiles :: vnames :: undef :: (Value.pointer (some ⟨w.heap.size, 0, none⟩)) :: undef :: (fptr x.1) :: undef :: undef :: undef :: undef :: undef :: undef :: undef :: (Value.pointer (some ⟨D, 0, none⟩)) :: (Value.func (.func 54) #[] #[.pointer (some ⟨B1, 0, none⟩), .pointer (some ⟨B3, 0, none⟩)]) :: (fptr x.1) :: undef :: undef :: undef :: undef :: undef :: undef :: undef :: undef :: undef :: undef :: undef :: undef :: undef :: undef :: undef :: undef :: undef :: undef :: undef :: undef :: undef :: undef :: undef :: undef :: undef :: undef :: undef :: undef :: undef :: undef :: undef :: undef :: undef :: undef :: undef :: undef :: undef :: undef :: undef :: undef :: undef :: undef :: undef :: undef :: undef :: undef :: undef :: undef :: undef :: undef :: undef :: undef :: undef :: undef :: undef :: undef :: undef :: undef :: undef :: undef :: undef :: undef :: undef :: undef :: undef :: undef :: undef :: undef :: undef :: undef :: undef :: undef :: undef :: undef :: undef :: undef :: undef :: undef :: undef :: undef :: undef :: undef :: undef :: undef :: undef :: undef :: undef :: undef :: undef :: undef :: undef :: undef :: undef :: undef :: undef :: undef :: undef :: undef :: undef :: undef :: undef :: undef :: undef :: undef :: undef :: undef :: undef :: undef :: undef :: undef :: undef :: undef :: undef :: undef :: []), defers := [] }) ?assign ?body ?done ?stop
  case h0 =>
    refine ⟨Keeps.refl _ _, ⟨vfiles, hb4, HFI.out.imp (fun ⟨hr, ho⟩ => ⟨hkw.reads hr (by simp), fun g hg hm => ?_⟩) id, hcap⟩, ⟨fun f => (S.con f).1.length, fun f hf => ⟨(hbl f hf).1, Nat.le_refl _, fun p c h => h⟩, fun _ _ _ => rfl, fun _ _ _ => rfl, fun x n rest e => by cases e⟩⟩
    rcases List.mem_cons.1 hm with rfl | hm
    · have := hr.lt _ hg; omega
    · exact ho g hg hm
  case assign =>
    intro l x W K hK
    gi_wp2
    exact hK
  case body =>
    rintro l pre ⟨f, hf⟩ W hI hlt
    obtain ⟨v', hv', hrd, hcp⟩ := hI.v
    obtain ⟨m, hm, hmf, hmp, hmx⟩ := hI.m
    obtain ⟨vv, h1, h2, _⟩ := hX2.cells hf
    obtain ⟨p, cc, rfl⟩ := ownsRow_slice h2
    have hfW := (hm f hf).2.2 p cc h1
    have hlm := (hm f hf).1
    have hml := (hm f hf).2.1
    have hbf := hbl f hf
    have hcc := ownsRow_capv h2
    have cB4 := hv'.cell
    have zB4 := hv'.frozen
    have HIv := Lib.hid hI
    clear hI
    cases hd : files.drop pre.length with
    | nil =>
      rw [hd] at hrd
      obtain ⟨pq, cq, rfl⟩ := hrd.shape
      have HM := Lib.hid hm
      have HMF := Lib.hid hmf
      have HD := Lib.hid hd
      clear hrd hm hmf hmp hmx hd
      gi_wp2
      refine ⟨KeepsFrom.refl _ _, fun h => h, HIv.out.k, ⟨_, hv', .inr ⟨by rw [List.length_append, List.length_singleton, ← List.drop_drop, HD.out]; rfl, _, _, rfl⟩, hcp⟩, ⟨m, HM.out, HMF.out, fun e => absurd e (by simp), fun x n rest e e2 => ?_⟩⟩
      exfalso
      have : pre = [] := by
        have := congrArg List.length e
        simp at this
        exact this
      have hd := HD.out
      rw [this, e2] at hd
      cases hd
    | cons n rest =>
      rw [hd] at hrd
      obtain ⟨hrd, hoff⟩ := hrd.resolve_right fun h => by have := h.1; simp [intsV] at this
      have hbk : ∃ g o cq, v' = .slice (some ⟨g, o, none⟩) (rest.length + 1) cq ∧ g < w2.heap.size ∧ w2.cell? ⟨g, o, none⟩ = some (.int .i64 n) ∧ ∀ j u, (intsV rest)[j]? = some u → w2.cell? ((⟨g, o + 1, none⟩ : Addr).add j) = some u := by
        rcases hrd with ⟨_, h0⟩ | ⟨g, o, cq, hv, hg, hc⟩
        · cases h0
        · refine ⟨g, o, cq, by rw [hv]; simp [intsV], hg, ?_, fun j u hj => ?_⟩
          · have := hc 0 (.int .i64 n) rfl
            simpa [Addr.add] using this
          · have h3 := hc (j + 1) u (by simpa [intsV] using hj)
            have e : ∀ (a b : Nat), ((⟨g, a, none⟩ : Addr).add b) = ⟨g, a + b, none⟩ := fun a b => by unfold Addr.add; split <;> simp_all
            rw [e] at h3 ⊢
            rw [show o + 1 + j = o + (j + 1) by omega]
            exact h3
      obtain ⟨g, o, cq, rfl, hg, hcn, hcr⟩ := hbk
      have hgx := hoff g rfl
      have cN : W.cell? ⟨g, o, none⟩ = some (.int .i64 n) := (World.cell?_of_block (HIv.out.k.block g hg hgx)).trans hcn
      have f0 : W.cell? ⟨f, 0, none⟩ = some (.slice p (m f) cc) := by simp [World.cell?, hfW]
      have f1 : W.cell? ⟨f, 1, none⟩ = some (.int .i64 ((S.con f).2 : Nat)) := by simp [World.cell?, hfW]
      have z0 : W.frozen? ⟨f, 0, none⟩ = false := by simp [World.frozen?, hfW]
      have hqc := hcp _ _ _ rfl
      obtain ⟨K, hK, hKc, hK1, hK2, hK3, hK4, hK5, hK6⟩ := cut_eq (S.con f).2 (m f) n hlm
      have HKC := Lib.hid hKc
      clear hKc
      have HM := Lib.hid hm
      have HMF := Lib.hid hmf
      have HMP := Lib.hid hmp
      have HD := Lib.hid hd
      have HFW := Lib.hid hfW
      have HCR := Lib.hid hcr
      have hBf : w.heap.size ≠ f := (cells_ne hfW hv' (by decide)).symm
      have HFin : ∀ (a : Option Addr) (c' q : Nat), Reads w2 (.slice a rest.length c') (intsV rest) → (∀ g', (Value.slice a rest.length c').rowBlock = some g' → g' ∉ w.heap.size :: S.fs) → rest.length ≤ c' →
          KeepsFrom w2.heap.size W (((W.drewN q).setCell ⟨f, 0, none⟩ (.slice p K cc)).setCell ⟨w.heap.size, 0, none⟩ (.slice a rest.length c')) ∧
          KpIt base B3 M C vf S.fs (fun f => (S.con f).1.length) (fun f => (S.con f).2) W (((W.drewN q).setCell ⟨f, 0, none⟩ (.slice p K cc)).setCell ⟨w.heap.size, 0, none⟩ (.slice a rest.length c')) ∧
          CrashI S files w.heap.size w2 (pre ++ [⟨f, hf⟩]) (((W.drewN q).setCell ⟨f, 0, none⟩ (.slice p K cc)).setCell ⟨w.heap.size, 0, none⟩ (.slice a rest.length c')) := by
        intro a c' q hr1 hr2 hr3
        have hk0 : ∀ j, j ≠ f → j ≠ w.heap.size → (((W.drewN q).setCell ⟨f, 0, none⟩ (.slice p K cc)).setCell ⟨w.heap.size, 0, none⟩ (.slice a rest.length c')).heap[j]? = W.heap[j]? := fun j j1 j2 =>
          (Below.heap_setCell _ _ _ j j2).trans (Below.heap_setCell _ _ _ j j1)
        have hkf : (((W.drewN q).setCell ⟨f, 0, none⟩ (.slice p K cc)).setCell ⟨w.heap.size, 0, none⟩ (.slice a rest.length c')).heap[f]? = some (.cells #[.slice p K cc, .int .i64 (S.con f).2] 64 (0, 0)) :=
          (Below.heap_setCell _ _ _ f hBf.symm).trans (cells_set (w := W.drewN q) HFW.out 0 _)
        refine ⟨KeepsFrom.trans (Y := W.drewN q) ⟨Nat.le_refl _, fun k o _ hk _ => hk⟩ (((KeepsOthers.setCell (W.drewN q) _ _).trans (KeepsOthers.setCell _ _ _)).from _), fun hI => ?_, ⟨?_, ?_, ?_⟩⟩
        · have hMne : ∀ k cs t, W.heap[k]? = some (.cells cs t (0, 0)) → M ≠ k := fun k cs t hk e => by
            obtain ⟨es, cl, h1, _⟩ := hI.s
            rw [e, hk] at h1
            cases h1
          refine ⟨(hk0 B3 (cells_ne hI.b HFW.out (by decide)) (cells_ne hI.b hv' (by decide))).trans hI.b, hI.s.of_block (hk0 M (hMne _ _ _ HFW.out) (hMne _ _ _ hv')), ⟨hI.r.1, ?_⟩, fun f' hf' => ?_⟩
          · rcases hI.r.2 with h' | ⟨g, cap, cur, hv, hg, hh, r⟩
            · exact .inl h'
            · exact .inr ⟨g, cap, cur, hv, hg, (hk0 g (cells_ne hh HFW.out (by decide)) (cells_ne hh hv' (by decide))).trans hh, r⟩
          · by_cases e : f' = f
            · subst e
              exact ⟨p, K, cc, hkf, by omega⟩
            · obtain ⟨p', n', c'', h1, h2⟩ := hI.f f' hf'
              exact ⟨p', n', c'', (hk0 f' e (cells_ne h1 hv' (by decide))).trans h1, h2⟩
        · exact ((HIv.out.k.drewN q).setCell _ _ fun _ => List.mem_cons_of_mem _ hf).setCell _ _ fun _ => List.mem_cons_self ..
        · refine ⟨_, (show Boxed ((W.drewN q).setCell ⟨f, 0, none⟩ (.slice p K cc)) w.heap.size 46 _ from (Below.heap_setCell (W.drewN q) ⟨f, 0, none⟩ _ _ hBf).trans hv').set _, .inl ⟨?_, hr2⟩, fun p' n' c'' e => by cases e; exact hr3⟩
          rw [List.length_append, List.length_singleton, ← List.drop_drop, HD.out]
          exact hr1
        · refine ⟨fun j => if j = f then K else m j, fun f' hf' => ?_, fun e => ?_, fun e => absurd e (by simp), fun x n' rest' e e2 => ?_⟩
          · by_cases e : f' = f
            · subst e
              simp only [if_true]
              refine ⟨hK1, by omega, fun p' c'' h => ?_⟩
              rw [h1] at h
              simp at h
              obtain ⟨rfl, rfl⟩ := h
              exact hkf
            · simp only [e, if_false]
              refine ⟨(HM.out f' hf').1, (HM.out f' hf').2.1, fun p' c'' h => ?_⟩
              have h4 := (HM.out f' hf').2.2 p' c'' h
              exact (hk0 f' e (cells_ne h4 hv' (by decide))).trans h4
          · have := HD.out
            rw [e] at this
            simp at this
          · have hp : pre = [] := by
              have := congrArg List.length e
              simp at this
              exact this
            subst hp
            obtain rfl : x = ⟨f, hf⟩ := by simpa using e.symm
            have := HD.out
            rw [e2] at this
            simp at this
            obtain ⟨rfl, rfl⟩ := this
            simp only [if_true]
            rw [HKC.out, HMP.out rfl f hf]
      clear hrd hm hmf hmp hmx hd hfW hcr hcn h2 h1
      gi_wp2_with fail
      refine wpInR_region_tail 11 (by kernel_rfl) (by kernel_rfl) (by kernel_rfl) ?_
      simp only [List.take_succ_cons, List.take_zero, List.drop_succ_cons, List.drop_zero]
      repeat (go_big_quiet_step (fail))
      refine wpQuiet_nil ?_
      rintro _ ⟨nq, rfl⟩
      gi_wp2_with fail
      refine wpInR_region_tail 22 (by kernel_rfl) (by kernel_rfl) (by kernel_rfl) ?_
      simp only [List.take_succ_cons, List.take_zero, List.drop_succ_cons, List.drop_zero]
      repeat (go_big_quiet_step (fail))
      refine wpQuiet_nil ?_
      rintro _ ⟨nq2, rfl⟩
      have hBf : w.heap.size ≠ f := (cells_ne HFW.out hv' (by decide)).symm
      gi_wp2_with fail
      · exact HFin (some ⟨g, o, none⟩) 0 _ (.inr ⟨g, o, 0, by simp [intsV], hg, fun j u hj => by have := (List.getElem?_eq_some_iff.1 hj).1; simp [intsV] at this; omega⟩) (fun g' e => hoff g' e) (by omega)
      · exact HFin (some ⟨g, o + 1, none⟩) (cq - 1) _ (.inr ⟨g, o + 1, cq - 1, by simp [intsV], hg, HCR.out⟩) (fun g' e => hoff g' e) (by omega)
  case done =>
    rintro Dd ys W hDd ⟨hys1, hys2⟩ hI hK
    obtain ⟨m, hm, hmf, hmp, hmx⟩ := hI.m
    have hS1 : DX base W D (S.refile m fun f => (S.con f).2) := hX2.refile (.inl ⟨_, hb4⟩) hI.k m (fun f => (S.con f).2) fun f hf => ⟨(hm f hf).2.1, (hm f hf).1, (hm f hf).2.2⟩
    have hNW : Arg W [] vnames (boolsV names) := HNA.out.imp (fun ⟨hr, ho⟩ => ⟨hI.k.reads (hkw.reads hr (by simp)) fun g hg hm => by
      rcases List.mem_cons.1 hm with rfl | hm
      · have := hr.lt _ hg; omega
      · exact ho g hg hm, by simp⟩) id
    have HX := Lib.hid (show ∀ a n rest es, S.fs = [a] → files = n :: rest → S.nm = .map es → (∃ p ∈ es, p.2 = litF a) → (S.con a).2 < (S.con a).1.length → m a = cutAt (S.con a).2 (S.con a).1.length n from fun a n rest es e1 e2 e3 ⟨p, hp, e4⟩ hlt => by
      obtain ⟨x, ys', ey, ex⟩ := hys2 a [] e1 (hnm es e3 p hp a e4) hlt
      have : ys' = [] := by
        have h1 : ys.length ≤ S.fs.length := hys1
        have h2 : S.fs.length = 1 := by rw [e1]; rfl
        rw [ey] at h1
        rw [List.length_cons] at h1
        exact List.length_eq_zero_iff.1 (by omega)
      subst this
      have := hmx x n rest ey e2
      rw [ex] at this
      exact this)
    have HM1 := Lib.hid (fun f (hf : f ∈ S.fs) => (⟨(hm f hf).1, (hm f hf).2.1⟩ : (S.con f).2 ≤ m f ∧ m f ≤ (S.con f).1.length))
    have HMF := Lib.hid hmf
    have hBW : Below base w W := (hkw.below h.base_le'.1 (by simp)).trans (hI.k.below (Nat.le_trans h.base_le'.1 hkw.size) fun x hx => by
      rcases List.mem_cons.1 hx with rfl | hx
      · exact h.base_le'.1
      · obtain ⟨_, _, _, h3⟩ := hX2.cells hx
        exact h3)
    have hDdl : w.heap.size < Dd := by omega
    have hDdb : base ≤ Dd := by have := h.base_le'.1; omega
    clear hm hmf hmp hmx hys2 hys1 hI hA2 hIt hvfl hbl hfl hB1 hB3 hset hnm hb4 hX2 hkw HNA HFI HK1 HB4 HOp
    obtain ⟨vf1, N1, L1, vt1, nn1, nl1, vb1, hA1⟩ := hS1.at_
    have c8 : W.cell? ⟨D, 8, none⟩ = some (.map (some L1)) := hA1.d.cell 8 _ rfl
    have HC := Lib.hid (clone_map W L1 (Maps.size S.ls) S.ls hA1.l.tight)
    have HS1 := Lib.hid hS1
    have HBW := Lib.hid hBW
    have HNW := Lib.hid hNW
    have HK := Lib.hid hK
    clear hBW hNW hK
    gi_wp2_with (refine ⟨trivial, ?_⟩; gi_at_call 36; refine (callsIn_wide.2 HC.out).mono ?_; rintro e w3 ⟨rfl, hn3, hg3, hz3⟩; (have hk3 : Keeps [] W w3 := (Keeps.refl [] W).grown hg3 (fun k e => by cases e)); (have hS3 := HS1.out.keep hk3); (have HA3 := Lib.hid (hA1.keep hk3)); (have c9 : w3.cell? ⟨D, 9, none⟩ = some vt1 := HA3.out.d.cell 9 _ rfl); (have hrt : w3.ownsRow base 66 4 vt1 S.ts.length (S.ts.flatMap Turn.cells) := HA3.out.rt); (have hvt := ownsRow_slice hrt); obtain ⟨pt, ct, rfl⟩ := hvt; (have HRT := Lib.hid hrt); clear hrt)
    refine wpIn_wide.2 ?_
    have HN3 := Lib.hid hn3
    have HK3 := Lib.hid hk3
    have HS3 := Lib.hid hS3
    have hWl : D < W.heap.size := hA1.d.lt
    have hbW : base ≤ W.heap.size := hA1.bw
    clear hn3 hk3 hS3 hg3 c8 c9 HC hA1
    have hts : S.ts.length ≤ 4000 := by have := h.sl; have := h.sc; omega
    have hszl : Maps.size S.ls + S.ts.length ≤ 4000 := by have := h.sl; have := h.sc; omega
    obtain ⟨pvn, hvn'⟩ : ∃ pvn, vnames = .slice pvn names.length cn := ⟨pn, by rw [← hvn]; simp [boolsV]⟩
    clear hvn
    subst hvn'
    go_loopw [65] (fun u wr => ∃ i : Nat, i ≤ S.ts.length ∧ u = .int .i64 i ∧ Keeps [W.heap.size] w3 wr ∧ NamesAt wr W.heap.size (Maps.size S.ls + i) (nowOf (S.ts.take i) names S.ls)) (fun i _ => S.ts.length - (intOf i).toNat)
    case atStart => exact ⟨0, Nat.zero_le _, rfl, Keeps.refl _ _, HN3.out⟩
    case round =>
      obtain ⟨i, hi, rfl, hkr, hnr⟩ := hrel
      have HKr := Lib.hid hkr
      have HNr := Lib.hid hnr
      clear hkr hnr
      by_cases hlt : i < S.ts.length
      · obtain ⟨t, ht⟩ : ∃ t, S.ts[i]? = some t := ⟨S.ts[i], by simp [hlt]⟩
        rcases ownsRow_shape HRT.out with ⟨_, h0⟩ | ⟨g, ct', hq, hg, hgl⟩
        · omega
        simp at hq
        obtain ⟨rfl, rfl⟩ := hq
        have hgN : g ≠ W.heap.size := fun e => map_own_ne HN3.out HRT.out (by rw [← e]; rfl)
        have hcl : ∀ j u, (S.ts.flatMap Turn.cells)[j]? = some u → wr.cell? ⟨g, j, none⟩ = some u := fun j u hj => by
          have h1 := HRT.out.cells (g := g) rfl j u hj
          rw [show ((⟨g, 0, none⟩ : Addr).add j) = ⟨g, j, none⟩ from by cases j <;> simp [Addr.add]] at h1
          exact (World.cell?_of_block (HKr.out.block g hgl (by simpa using hgN))).trans h1
        have ht0 := turn_cell ht 0 (by omega)
        have ht1 := turn_cell ht 1 (by omega)
        have ht2 := turn_cell ht 2 (by omega)
        have ht3 := turn_cell ht 3 (by omega)
        rw [Nat.mul_comm] at ht0 ht1 ht2 ht3
        rw [Nat.add_zero] at ht0
        have hok := (h.vt t (List.mem_of_getElem? ht)).1
        have HNow := Lib.hid (nowOf_succ names S.ls ht)
        have htest : names.length ≤ i ∨ (i < names.length ∧ ∃ g2 o2, pvn = some ⟨g2, o2, none⟩ ∧ g2 < wr.heap.size ∧ wr.cell? ⟨g2, o2 + i, none⟩ = some (.bool ((names[i]?).getD true))) := by
          rcases Nat.lt_or_ge i names.length with hl | hl
          · refine .inr ⟨hl, ?_⟩
            obtain ⟨hNr, _⟩ := HNW.out.resolve_right fun h => by have := h.1; rw [List.map_eq_nil_iff.1 this] at hl; simp at hl
            rcases hNr with ⟨_, h0⟩ | ⟨g2, o2, c2, hv2, hg2, hc2⟩
            · have : names = [] := by simpa [boolsV] using h0
              rw [this] at hl; simp at hl
            · simp at hv2
              refine ⟨g2, o2, hv2.1, Nat.lt_of_lt_of_le (Nat.lt_of_lt_of_le hg2 HK3.out.size) HKr.out.size, ?_⟩
              have h1 := hc2 i (.bool names[i]) (by simp [boolsV, hl])
              have e : ∀ (a b : Nat), ((⟨g2, a, none⟩ : Addr).add b) = ⟨g2, a + b, none⟩ := fun a b => by unfold Addr.add; split <;> simp_all
              rw [e] at h1
              rw [World.cell?_of_block ((HKr.out.block g2 (Nat.lt_of_lt_of_le hg2 HK3.out.size) (by simp; omega)).trans (HK3.out.block g2 hg2 (by simp))), h1]
              simp [hl]
          · exact .inl hl
        cases t with
          | make s f =>
            have e0 := hcl _ _ ht0
            have e1 := hcl _ _ ht1
            have e2 := hcl _ _ ht2
            have e3 := hcl _ _ ht3
            have kA : Keeps [W.heap.size] w3 (wr.alloc (.cells #[.int .i64 0, .string s, .string ⟨#[]⟩, .pointer (some ⟨f, 0, none⟩)] 66)) := HKr.out.alloc _
            have nA : NamesAt (wr.alloc (.cells #[.int .i64 0, .string s, .string ⟨#[]⟩, .pointer (some ⟨f, 0, none⟩)] 66)) W.heap.size (Maps.size S.ls + i) (nowOf (S.ts.take i) names S.ls) := World.ownsMap.alloc HNr.out _
            by_cases hkeep : (names[i]?).getD true = true
            · have HL : Hid (Calls Try.prog 38 #[.agg #[.int .i64 0, .string s, .string ⟨#[]⟩, .pointer (some ⟨f, 0, none⟩)], .map (some W.heap.size)] (wr.alloc (.cells #[.int .i64 0, .string s, .string ⟨#[]⟩, .pointer (some ⟨f, 0, none⟩)] 66)) fun e w' => (∃ v, e = .returned v) ∧ NamesAt w' W.heap.size (Maps.size S.ls + i + 1) ((Turn.make s f).lead (nowOf (S.ts.take i) names S.ls)) ∧ Keeps [W.heap.size] (wr.alloc (.cells #[.int .i64 0, .string s, .string ⟨#[]⟩, .pointer (some ⟨f, 0, none⟩)] 66)) w') := lead_any nA (by omega) (Turn.make s f) hok
              have HKA := Lib.hid kA
              rw [if_pos hkeep] at HNow
              clear kA nA
              rcases htest with hge | ⟨hlt2, g2, o2, hq2, hg2l, hb2⟩
              · go_wp2_with (go_at_call 38; (with_reducible refine HL.out.mono ?_); rintro e w4 ⟨⟨_, rfl⟩, h4, h5⟩; (have H4 := Lib.hid h4); (have H5 := Lib.hid h5); clear h4 h5)
                go_roundw
                case rel => exact ⟨i + 1, by omega, by go_num, HKA.out.trans H5.out, by rw [HNow.out]; exact H4.out⟩
                case measure => simp [intOf]; omega
              · rw [hkeep] at hb2
                obtain rfl := hq2
                go_wp2_with (go_at_call 38; (with_reducible refine HL.out.mono ?_); rintro e w4 ⟨⟨_, rfl⟩, h4, h5⟩; (have H4 := Lib.hid h4); (have H5 := Lib.hid h5); clear h4 h5)
                go_roundw
                case rel => exact ⟨i + 1, by omega, by go_num, HKA.out.trans H5.out, by rw [HNow.out]; exact H4.out⟩
                case measure => simp [intOf]; omega
            · have HKA := Lib.hid kA
              have HNA2 := Lib.hid nA
              rw [if_neg hkeep] at HNow
              clear kA nA
              rcases htest with hge | ⟨hlt2, g2, o2, hq2, hg2l, hb2⟩
              · exact absurd (by rw [List.getElem?_eq_none hge]; rfl) hkeep
              · have hkeep' : (names[i]?).getD true = false := by simpa using hkeep
                rw [hkeep'] at hb2
                obtain rfl := hq2
                go_wp2_with fail
                go_roundw
                case rel => exact ⟨i + 1, by omega, by go_num, HKA.out, by rw [HNow.out]; exact World.ownsMap.mono HNA2.out (by omega)⟩
                case measure => simp [intOf]; omega
          | move a b =>
            have e0 := hcl _ _ ht0
            have e1 := hcl _ _ ht1
            have e2 := hcl _ _ ht2
            have e3 := hcl _ _ ht3
            have kA : Keeps [W.heap.size] w3 (wr.alloc (.cells #[.int .i64 1, .string a, .string b, .pointer none] 66)) := HKr.out.alloc _
            have nA : NamesAt (wr.alloc (.cells #[.int .i64 1, .string a, .string b, .pointer none] 66)) W.heap.size (Maps.size S.ls + i) (nowOf (S.ts.take i) names S.ls) := World.ownsMap.alloc HNr.out _
            by_cases hkeep : (names[i]?).getD true = true
            · have HL : Hid (Calls Try.prog 38 #[.agg #[.int .i64 1, .string a, .string b, .pointer none], .map (some W.heap.size)] (wr.alloc (.cells #[.int .i64 1, .string a, .string b, .pointer none] 66)) fun e w' => (∃ v, e = .returned v) ∧ NamesAt w' W.heap.size (Maps.size S.ls + i + 1) ((Turn.move a b).lead (nowOf (S.ts.take i) names S.ls)) ∧ Keeps [W.heap.size] (wr.alloc (.cells #[.int .i64 1, .string a, .string b, .pointer none] 66)) w') := lead_any nA (by omega) (Turn.move a b) hok
              have HKA := Lib.hid kA
              rw [if_pos hkeep] at HNow
              clear kA nA
              rcases htest with hge | ⟨hlt2, g2, o2, hq2, hg2l, hb2⟩
              · go_wp2_with (go_at_call 38; (with_reducible refine HL.out.mono ?_); rintro e w4 ⟨⟨_, rfl⟩, h4, h5⟩; (have H4 := Lib.hid h4); (have H5 := Lib.hid h5); clear h4 h5)
                go_roundw
                case rel => exact ⟨i + 1, by omega, by go_num, HKA.out.trans H5.out, by rw [HNow.out]; exact H4.out⟩
                case measure => simp [intOf]; omega
              · rw [hkeep] at hb2
                obtain rfl := hq2
                go_wp2_with (go_at_call 38; (with_reducible refine HL.out.mono ?_); rintro e w4 ⟨⟨_, rfl⟩, h4, h5⟩; (have H4 := Lib.hid h4); (have H5 := Lib.hid h5); clear h4 h5)
                go_roundw
                case rel => exact ⟨i + 1, by omega, by go_num, HKA.out.trans H5.out, by rw [HNow.out]; exact H4.out⟩
                case measure => simp [intOf]; omega
            · have HKA := Lib.hid kA
              have HNA2 := Lib.hid nA
              rw [if_neg hkeep] at HNow
              clear kA nA
              rcases htest with hge | ⟨hlt2, g2, o2, hq2, hg2l, hb2⟩
              · exact absurd (by rw [List.getElem?_eq_none hge]; rfl) hkeep
              · have hkeep' : (names[i]?).getD true = false := by simpa using hkeep
                rw [hkeep'] at hb2
                obtain rfl := hq2
                go_wp2_with fail
                go_roundw
                case rel => exact ⟨i + 1, by omega, by go_num, HKA.out, by rw [HNow.out]; exact World.ownsMap.mono HNA2.out (by omega)⟩
                case measure => simp [intOf]; omega
          | drop a =>
            have e0 := hcl _ _ ht0
            have e1 := hcl _ _ ht1
            have e2 := hcl _ _ ht2
            have e3 := hcl _ _ ht3
            have kA : Keeps [W.heap.size] w3 (wr.alloc (.cells #[.int .i64 2, .string a, .string ⟨#[]⟩, .pointer none] 66)) := HKr.out.alloc _
            have nA : NamesAt (wr.alloc (.cells #[.int .i64 2, .string a, .string ⟨#[]⟩, .pointer none] 66)) W.heap.size (Maps.size S.ls + i) (nowOf (S.ts.take i) names S.ls) := World.ownsMap.alloc HNr.out _
            by_cases hkeep : (names[i]?).getD true = true
            · have HL : Hid (Calls Try.prog 38 #[.agg #[.int .i64 2, .string a, .string ⟨#[]⟩, .pointer none], .map (some W.heap.size)] (wr.alloc (.cells #[.int .i64 2, .string a, .string ⟨#[]⟩, .pointer none] 66)) fun e w' => (∃ v, e = .returned v) ∧ NamesAt w' W.heap.size (Maps.size S.ls + i + 1) ((Turn.drop a).lead (nowOf (S.ts.take i) names S.ls)) ∧ Keeps [W.heap.size] (wr.alloc (.cells #[.int .i64 2, .string a, .string ⟨#[]⟩, .pointer none] 66)) w') := lead_any nA (by omega) (Turn.drop a) hok
              have HKA := Lib.hid kA
              rw [if_pos hkeep] at HNow
              clear kA nA
              rcases htest with hge | ⟨hlt2, g2, o2, hq2, hg2l, hb2⟩
              · go_wp2_with (go_at_call 38; (with_reducible refine HL.out.mono ?_); rintro e w4 ⟨⟨_, rfl⟩, h4, h5⟩; (have H4 := Lib.hid h4); (have H5 := Lib.hid h5); clear h4 h5)
                go_roundw
                case rel => exact ⟨i + 1, by omega, by go_num, HKA.out.trans H5.out, by rw [HNow.out]; exact H4.out⟩
                case measure => simp [intOf]; omega
              · rw [hkeep] at hb2
                obtain rfl := hq2
                go_wp2_with (go_at_call 38; (with_reducible refine HL.out.mono ?_); rintro e w4 ⟨⟨_, rfl⟩, h4, h5⟩; (have H4 := Lib.hid h4); (have H5 := Lib.hid h5); clear h4 h5)
                go_roundw
                case rel => exact ⟨i + 1, by omega, by go_num, HKA.out.trans H5.out, by rw [HNow.out]; exact H4.out⟩
                case measure => simp [intOf]; omega
            · have HKA := Lib.hid kA
              have HNA2 := Lib.hid nA
              rw [if_neg hkeep] at HNow
              clear kA nA
              rcases htest with hge | ⟨hlt2, g2, o2, hq2, hg2l, hb2⟩
              · exact absurd (by rw [List.getElem?_eq_none hge]; rfl) hkeep
              · have hkeep' : (names[i]?).getD true = false := by simpa using hkeep
                rw [hkeep'] at hb2
                obtain rfl := hq2
                go_wp2_with fail
                go_roundw
                case rel => exact ⟨i + 1, by omega, by go_num, HKA.out, by rw [HNow.out]; exact World.ownsMap.mono HNA2.out (by omega)⟩
                case measure => simp [intOf]; omega
      · obtain rfl : i = S.ts.length := by omega
        have hnowD := HNr.out
        rw [List.take_length] at hnowD
        have hkall : Keeps [] W wr := HK3.out.trans' HKr.out (by simp)
        have hS4 := HS1.out.keep hkall
        obtain ⟨vf4, N4, L4, vt4, nn4, nl4, vb4, hA4⟩ := hS4.at_
        have HC2 := Lib.hid (clone_map wr W.heap.size _ _ hnowD)
        have HND := Lib.hid hnowD
        have HS4 := Lib.hid hS4
        have HKA := Lib.hid hkall
        have HD4 := Lib.hid hA4.d
        clear hnowD hS4 hkall HNr HNW hA4
        clear hS1 hvf hcap hfn hk2 hlt hi
        go_wp2_with fail
        refine wpIn_wide.2 ?_
        go_upto_region 15 with (go_at_call 36; (with_reducible refine HC2.out.mono ?_); rintro e w5 ⟨rfl, hn5, hg5, hz5⟩; (have hk5 : Keeps [] wr w5 := (Keeps.refl [] wr).grown hg5 (fun k e => by cases e)); (have d0 := hk5.disk HD4.out (by simp)); (have c7 : w5.cell? ⟨D, 7, none⟩ = some (.map (some N4)) := d0.cell 7 _ rfl); (have z7 := d0.frozen 7); (have c8 : w5.cell? ⟨D, 8, none⟩ = some (.map (some L4)) := d0.cell 8 _ rfl); (have z8 := d0.frozen 8); (have c9 : w5.cell? ⟨D, 9, none⟩ = some (vt4) := d0.cell 9 _ rfl); (have z9 := d0.frozen 9); (have HD0 := Lib.hid d0); (have HN5 := Lib.hid hn5); (have HK5 := Lib.hid hk5); clear d0 hn5 hk5 hg5)
        have hD6 := ((HD0.out.nmap W.heap.size).lasts wr.heap.size).turns (.slice none 0 0)
        have HK6 : Hid (Keeps [D] wr (((w5.setCell ⟨D, 7, none⟩ (.map (some W.heap.size))).setCell ⟨D, 8, none⟩ (.map (some wr.heap.size))).setCell ⟨D, 9, none⟩ (.slice none 0 0))) :=
          ((((HK5.out.mono (by simp)).setCell _ _ fun _ => by simp).setCell _ _ fun _ => by simp).setCell _ _ fun _ => by simp)
        have hDN : D ≠ W.heap.size := by omega
        have hDL : D ≠ wr.heap.size := by have := HKA.out.size; omega
        have HNa : Hid (NamesAt (((w5.setCell ⟨D, 7, none⟩ (.map (some W.heap.size))).setCell ⟨D, 8, none⟩ (.map (some wr.heap.size))).setCell ⟨D, 9, none⟩ (.slice none 0 0)) W.heap.size (Maps.size S.ls + S.ts.length) (nowOf S.ts names S.ls)) := HK6.out.names HND.out (by simpa using hDN.symm)
        have HLa : Hid (NamesAt (((w5.setCell ⟨D, 7, none⟩ (.map (some W.heap.size))).setCell ⟨D, 8, none⟩ (.map (some wr.heap.size))).setCell ⟨D, 9, none⟩ (.slice none 0 0)) wr.heap.size (Maps.size S.ls + S.ts.length) (nowOf S.ts names S.ls)) :=
          ((HN5.out.setCell (a := ⟨D, 7, none⟩) hDL.symm _).setCell (a := ⟨D, 8, none⟩) hDL.symm _).setCell (a := ⟨D, 9, none⟩) hDL.symm _
        clear c7 z7 c8 z8 c9 z9 HN5 HND
        generalize (((w5.setCell ⟨D, 7, none⟩ (.map (some W.heap.size))).setCell ⟨D, 8, none⟩ (.map (some wr.heap.size))).setCell ⟨D, 9, none⟩ (.slice none 0 0)) = w6 at *
        have HD6 := Lib.hid hD6
        have c5 : w6.cell? ⟨D, 5, none⟩ = some (.bool S.dead) := hD6.cell 5 _ rfl
        have c2 : w6.cell? ⟨D, 2, none⟩ = some (.int .i64 S.st) := hD6.cell 2 _ rfl
        have c3 : w6.cell? ⟨D, 3, none⟩ = some (.int .i64 S.fl) := hD6.cell 3 _ rfl
        have z5 := hD6.frozen 5
        have z2 := hD6.frozen 2
        have z3 := hD6.frozen 3
        clear hD6
        go_upto_region 16 with fail
        have hD7 := ((HD6.out.deads false).stops (-1)).fails 0
        have hk7 : Keeps [D] w6 (((w6.setCell ⟨D, 5, none⟩ (.bool false)).setCell ⟨D, 2, none⟩ (.int .i64 (-1))).setCell ⟨D, 3, none⟩ (.int .i64 0)) := (((Keeps.refl _ w6).setCell _ _ fun _ => by simp).setCell _ _ fun _ => by simp).setCell _ _ fun _ => by simp
        have HN7 := Lib.hid (hk7.names HNa.out (by simpa using hDN.symm))
        have HL7 := Lib.hid (hk7.names HLa.out (by simpa using hDL.symm))
        have HK7 := Lib.hid (HK6.out.trans hk7)
        clear c5 z5 c2 z2 c3 z3 hk7
        generalize (((w6.setCell ⟨D, 5, none⟩ (.bool false)).setCell ⟨D, 2, none⟩ (.int .i64 (-1))).setCell ⟨D, 3, none⟩ (.int .i64 0)) = w7 at *
        have hwr7 := HK7.out.size
        have HX7 : Hid (DX base w7 D ((S.refile m fun f => (S.con f).2).renewed (nowOf S.ts names S.ls))) :=
          HS4.out.renew HK7.out (fun vf' N' L' vt' hd => by rw [hd.same HD4.out]; exact hD7) HN7.out HL7.out (by have := World.ownsMap.lt HN3.out; have := HKr.out.size; omega) (by omega) (by have := HKA.out.size; omega)
            (Leads.now h.vl fun t ht => (h.vt t ht).2) (by have := World.ownsMap.size_le HN7.out; have := h.sl; show Maps.size (nowOf S.ts names S.ls) ≤ S.c; omega)
        clear hD7 HD6 HNa HLa HL7 HD0 HD4
        go_upto_region 17 with fail
        have hkw8 : Keeps [] w7 ((w7.alloc (.map #[] 0)).alloc (.cells #[.map (some w7.heap.size)] 72)) := ((Keeps.refl _ w7).alloc _).alloc _
        have hbx := Boxed.new (w7.alloc (.map #[] 0)) 72 (.map (some w7.heap.size))
        have hst := SetAt.made w7
        have hst8 : SetAt ((w7.alloc (.map #[] 0)).alloc (.cells #[.map (some w7.heap.size)] 72)) w7.heap.size [] := hst.of_block (Below.heap_alloc _ _ _ hst.lt)
        simp only [World.size_alloc] at hbx
        have HN8 := Lib.hid (hkw8.names HN7.out (by simp))
        clear hst
        generalize ((w7.alloc (.map #[] 0)).alloc (.cells #[.map (some w7.heap.size)] 72)) = w8 at *
        have hb8l := hbx.lt
        have HBX := Lib.hid hbx
        have HST := Lib.hid hst8
        have HKW8 := Lib.hid hkw8
        clear hbx hst8 hkw8
        obtain ⟨es, he, hpw, hkl⟩ := World.ownsMap.entries HN7.out key9
        have HE := Lib.hid he
        have HLE : Hid (∀ p ∈ es, ∃ f ∈ S.fs, p.2 = litF f) := by
          obtain ⟨es', e1, e2⟩ := HX7.out.vn
          have e1' : nowOf S.ts names S.ls = .map es' := e1
          rw [he] at e1'
          cases e1'
          exact e2
        have HPW := Lib.hid (pair_in hpw)
        have HHas := Lib.hid (fun p (hp : p ∈ es) => has_in hkl hp)
        rw [he] at HN8
        have HF7 : Hid (∀ f ∈ S.fs, ∃ p c, w7.heap[f]? = some (.cells #[.slice p ((S.con f).1.take (m f)).length c, .int .i64 (S.con f).2] 64 (0, 0))) := fun f hf => by
          obtain ⟨v, a1, a2, _⟩ := HX7.out.cells (f := f) hf
          obtain ⟨p, c, rfl⟩ := ownsRow_slice a2
          exact ⟨p, c, a1⟩
        have hW7 : W.heap.size ≤ wr.heap.size := HKA.out.size
        have hNl7 : W.heap.size < w7.heap.size := World.ownsMap.lt HN7.out
        have hbl7 : ∀ f ∈ S.fs, ((S.con f).1.take (m f)).length ≤ 200000 := fun f hf => by have := (h.bl f hf).2; rw [List.length_take]; omega
        have HBL := Lib.hid hbl7
        clear he hpw hkl hbl7
        go_wp2_with (first | (at_range; refine wpList_range_own _ rfl _ 56 rfl 9 62 key9 Try.underlying56 Rp W.heap.size _ (.map es) rfl HN8.out ?_; intro w0 hrg0 hg0 hs0))
        go_frame
        have HK0 : Hid (Keeps [] w8 w0) := (Keeps.refl _ w8).grown hg0 (fun _ e => by cases e)
        clear hg0
        have hr8 : w7.heap.size + 1 < w8.heap.size := hb8l
        go_loopw [] (fun wl => ∃ left cnt Cx, wl.ranges Try.prog 9 Rp W.heap.size w8.heap.size (Maps.size S.ls + S.ts.length) (.map es) left cnt ∧ Keeps (w7.heap.size :: S.fs) w7 wl ∧ w8.heap.size ≤ wl.heap.size ∧ Boxed wl (w7.heap.size + 1) 72 (.map (some w7.heap.size)) ∧ SetAt wl w7.heap.size Cx ∧
          (∀ g ∈ Cx, ∃ p ∈ es, p.2 = litF g) ∧ (∀ p ∈ es, left p.1 = false → ∀ f, p.2 = litF f → f ∈ Cx) ∧
          (∀ f ∈ S.fs, ∀ p c, w7.heap[f]? = some (.cells #[.slice p ((S.con f).1.take (m f)).length c, .int .i64 (S.con f).2] 64 (0, 0)) → wl.heap[f]? = some (.cells #[.slice p ((S.con f).1.take (m f)).length c, .int .i64 ((if f ∈ Cx then ((S.con f).1.take (m f)).length else (S.con f).2 : Nat))] 64 (0, 0)))) (fun wl => wl.rangeLeft W.heap.size w8.heap.size)
        case atStart =>
          refine ⟨_, _, [], hrg0, (HKW8.out.trans HK0.out).mono (by simp), HK0.out.size, HK0.out.boxed HBX.out (by simp), HK0.out.set HST.out (by simp), by simp, fun p hp hl => ?_, fun f hf p c h => ?_⟩
          · rw [HHas.out p hp] at hl; cases hl
          · have := (HKW8.out.trans HK0.out).block f (Array.getElem?_eq_some_iff.1 h).1 (by simp)
            simpa using this.trans h
        case round =>
          obtain ⟨left, cnt, Cx, hrg, hk, hsz8, hbx, hst, hcx, hvis, hcel⟩ := hrel
          have HRG := Lib.hid hrg
          have HKL := Lib.hid hk
          have HBx := Lib.hid hbx
          have HSt := Lib.hid hst
          have HCx := Lib.hid hcx
          have HVi := Lib.hid hvis
          have HCe := Lib.hid hcel
          clear hrg hk hbx hst hcx hvis hcel
          have hfw7 : ∀ f ∈ S.fs, f < w7.heap.size := fun f hf => by
            obtain ⟨p, c, h1⟩ := HF7.out f hf
            exact (Array.getElem?_eq_some_iff.1 h1).1
          have HFW := Lib.hid hfw7
          clear hfw7
          go_wp2_with (first | (at_next; refine wpList_next_ranges wr rfl _ rfl 9 key9 Rp Value.string mkV mkK_inv mkV_inv W.heap.size w8.heap.size _ (.map es) left cnt rfl HRG.out ?_ ?_))
          · intro hc0 hl0
            have HL0 := Lib.hid hl0
            clear hl0
            have hln : ∀ f ∈ S.fs, (S.con f).2 ≤ ((S.con f).1.take (m f)).length := fun f hf => (HX7.out.bl f hf).1
            have hX8 : DX base wr D (((S.refile m fun f => (S.con f).2).renewed (nowOf S.ts names S.ls)).refile (fun f => ((S.con f).1.take (m f)).length) (fun f => if f ∈ Cx then ((S.con f).1.take (m f)).length else (S.con f).2)) :=
              HX7.out.refile (.inr (Nat.le_refl _)) HKL.out _ _ fun f hf => ⟨Nat.le_refl _, by have := hln f hf; split <;> omega, fun p c h7 => HCe.out f hf p c h7⟩
            obtain ⟨vf8, c6, hr8', hoff8⟩ := hX8.row
            have hCf : ∀ g ∈ Cx, g ∈ S.fs := fun g hg => by
              obtain ⟨p, hp, e⟩ := HCx.out g hg
              obtain ⟨g', hg', e'⟩ := HLE.out p hp
              rw [e] at e'
              simp at e'
              obtain rfl : g = g' := by omega
              exact hg'
            have hcells : ∀ g ∈ S.fs, IsCells wr g := fun g hg => hX8.isCells hg
            have hvB : vf8.ownBlock ≠ some (w7.heap.size + 1) := fun e => own_ne hr8' HBx.out (by decide) e
            have hvM : vf8.ownBlock ≠ some w7.heap.size := fun e => by
              obtain ⟨cs, h1⟩ := own_cells hr8' e
              obtain ⟨es', cl', h2, _⟩ := HSt.out
              rw [h1] at h2; cases h2
            have HDel := Lib.hid (delete_any (w := wr) ⟨HBx.out, HSt.out, fun g hg => hcells g (hCf g hg)⟩ vf8 S.fs hr8' hcells (by have := HX7.out.sf; have := HX7.out.sc; have : S.fs.length ≤ 4000 := Nat.le_trans h.sf h.sc; omega) hvB hvM (fun f hf e => (hoff8 f e).2 hf) (fun f hf e => (hoff8 f e).2 (hCf f hf)))
            have hDd7 : w7.heap[Dd]? = some (.deferred (some [])) := (HK7.out.block Dd (by have := (Array.getElem?_eq_some_iff.1 HK.out).1; have := HKA.out.size; omega) (by
              simp only [List.mem_singleton]
              intro e
              have := HK.out
              rw [e] at this
              have h2 := HS1.out.base_le'
              obtain ⟨vf', N', L', vt', nn', nl', vb', hA'⟩ := HS1.out.at_
              have h3 := hA'.d
              unfold DiskIs at h3
              rw [this] at h3
              cases h3)).trans ((HKA.out.block Dd (Array.getElem?_eq_some_iff.1 HK.out).1 (by simp)).trans HK.out)
            have hDdr : wr.heap[Dd]? = some (.deferred (some [])) := (HKL.out.block Dd (Array.getElem?_eq_some_iff.1 hDd7).1 (by
              intro hm
              rcases List.mem_cons.1 hm with e | hm
              · have := (Array.getElem?_eq_some_iff.1 hDd7).1; omega
              · obtain ⟨p, c, h1⟩ := HF7.out Dd hm
                rw [hDd7] at h1; cases h1)).trans hDd7
            have HDr := Lib.hid hDdr
            have HX8 := Lib.hid hX8
            have HLn := Lib.hid hln
            have HOf := Lib.hid hoff8
            have HR8 := Lib.hid hr8'
            have hr8 : wr.ownsRow base 62 1 vf8 S.fs.length (S.fs.map fptr) := hr8'
            obtain ⟨pv8, cv8, rfl⟩ := ownsRow_slice hr8
            clear hDd7 hDdr hX8 hoff8 hcells hCf hvB hvM hr8' hr8 hln
            go_wp2_with (go_at_call 39; (with_reducible refine HDel.out.mono ?_); rintro e w9 ⟨v9, rfl, h91, h92, h93⟩; (have H91 := Lib.hid h91); (have H92 := Lib.hid h92); (have H93 := Lib.hid h93); (have c69 : w9.cell? ⟨D, 6, none⟩ = some (.slice pv8 S.fs.length cv8) := (World.cell?_of_block (h93.block D (by obtain ⟨vf', N', L', vt', nn', nl', vb', hA'⟩ := HX8.out.at_; exact hA'.d.lt) (by simp only [Option.mem_toList]; exact fun e => (HOf.out D e).1 rfl))).trans c6); (have z69 : w9.frozen? ⟨D, 6, none⟩ = false := (World.frozen?_of_block (h93.block D (by obtain ⟨vf', N', L', vt', nn', nl', vb', hA'⟩ := HX8.out.at_; exact hA'.d.lt) (by simp only [Option.mem_toList]; exact fun e => (HOf.out D e).1 rfl))).trans (by obtain ⟨vf', N', L', vt', nn', nl', vb', hA'⟩ := HX8.out.at_; exact hA'.d.frozen 6)); obtain ⟨pv9, cv9, rfl⟩ := ownsRow_slice h91; clear h91 h92 h93)
            have hDl : D < wr.heap.size := by obtain ⟨vf', N', L', vt', nn', nl', vb', hA'⟩ := HX8.out.at_; exact hA'.d.lt
            have hDdne : Dd ≠ D := fun e => by
              obtain ⟨vf', N', L', vt', nn', nl', vb', hA'⟩ := HX8.out.at_
              have h3 := hA'.d
              unfold DiskIs at h3
              rw [← e, HDr.out] at h3
              cases h3
            have hDdo : ∀ j, (Value.slice pv8 S.fs.length cv8).ownBlock = some j → Dd ≠ j := fun j hj e => by
              obtain ⟨cs, h1⟩ := own_cells HR8.out hj
              rw [← e, HDr.out] at h1
              cases h1
            have hd9 : w9.heap[Dd]? = some (.deferred (some [])) := (H93.out.block Dd (Array.getElem?_eq_some_iff.1 HDr.out).1 (by simp only [Option.mem_toList]; exact fun e => hDdo Dd e rfl)).trans HDr.out
            have hd10 : (w9.setCell ⟨D, 6, none⟩ (.slice pv9 (stay Cx S.fs).length cv9)).heap[Dd]? = some (.deferred (some [])) := (Below.heap_setCell w9 ⟨D, 6, none⟩ _ Dd hDdne).trans hd9
            have hiff : ∀ g, g ∈ Cx ↔ ∃ p ∈ es, p.2 = litF g := fun g => ⟨HCx.out g, fun ⟨p, hp, e⟩ => HVi.out p hp (HL0.out p.1) g e⟩
            have hX10 := HX8.out.stay Cx c6 H93.out H91.out H92.out (fun es' e' p hp f e => by
              have e2 : nowOf S.ts names S.ls = .map es' := e'
              rw [HE.out] at e2
              cases e2
              exact (hiff f).2 ⟨p, hp, e⟩) (fun es' e' p hp f e => by
              have e2 : nowOf S.ts names S.ls = .map es' := e'
              rw [HE.out] at e2
              cases e2
              exact (hiff f).2 ⟨p, hp, e⟩) rfl
            have hk11 : Keeps [Dd] (w9.setCell ⟨D, 6, none⟩ (.slice pv9 (stay Cx S.fs).length cv9)) ((w9.setCell ⟨D, 6, none⟩ (.slice pv9 (stay Cx S.fs).length cv9)).putObj Dd (.deferred none)) :=
              (Keeps.refl _ _).grown (grownBy_putObj' _ Dd _) (fun k e _ => by cases e; simp)
            have hX11 := hX10.keepOff hk11 (fun cs t fr e => by rw [hd10] at e; cases e) (fun es c e => by rw [hd10] at e; cases e)
            refine ⟨by simp, .inl ⟨_, _, rfl, run_takeDeferred hd10, ?_⟩⟩
            refine ⟨_, results_none rfl _ _ _, ⟨_, rfl⟩, ?_, m, Cx, es, HM1.out, HMF.out, HX.out, HE.out, hiff, ?_⟩
            · have hbD := HX8.out.base_le'.2
              have l1 := HKA.out.size
              have l2 := HK7.out.size
              have l3 := HKL.out.size
              have l4 := H93.out.size
              refine HBW.out.trans ((HKA.out.below hbW (by simp)).trans ((HK7.out.below (by omega) (by simpa using hbD)).trans ((HKL.out.below (by omega) fun x hx => ?_).trans ((H93.out.below (by omega) fun x hx => ?_).trans ((((Keeps.refl [D] w9).setCell _ _ fun _ => by simp).below (by omega) (by simpa using hbD)).trans (hk11.below (by simp; omega) (by simpa using hDdb)))))))
              · rcases List.mem_cons.1 hx with rfl | hx
                · omega
                · obtain ⟨_, _, _, h3⟩ := HX7.out.cells (f := x) hx
                  exact h3
              · exact (HR8.out.lt x (by simpa using hx)).1
            · rw [← HE.out]
              exact hX11
          · intro x cv kl y ps w' cnt' hkey hlk hRv hat hrg' hlt hgr hsz hen
            have hmem := entry_in es kl y hat
            obtain ⟨f, hf, hy⟩ := HLE.out _ hmem
            simp only at hy
            obtain rfl : cv = some f := by
              cases cv with
              | none => rw [show Rp (mkV none) = some (.lit (.int .i64 (-1)), []) from rfl] at hRv; cases hRv; simp at hy
              | some g => rw [show Rp (mkV (some g)) = some (.lit (.int .i64 (g : Nat)), []) from rfl] at hRv; cases hRv; simp at hy; congr 1; omega
            obtain ⟨p, c, h7⟩ := HF7.out f hf
            have hfl7 := HFW.out f hf
            have hfwl := HCe.out f hf p c h7
            have hfne : f ≠ w8.heap.size := by omega
            have hfM : f ≠ w7.heap.size := by omega
            have hfB : f ≠ w7.heap.size + 1 := by omega
            have hfN : f ≠ W.heap.size := fun e => by
              obtain ⟨es', cl', h1, _⟩ := HN7.out
              rw [← e, h7] at h1; cases h1
            have hfw' : w'.heap[f]? = some (.cells #[.slice p ((S.con f).1.take (m f)).length c, .int .i64 ((if f ∈ Cx then ((S.con f).1.take (m f)).length else (S.con f).2 : Nat))] 64 (0, 0)) := (hgr.block f (by omega) (by simpa using hfne)).trans hfwl
            have f0 : w'.cell? ⟨f, 0, none⟩ = some (.slice p ((S.con f).1.take (m f)).length c) := by simp [World.cell?, hfw']
            have f1 : w'.cell? ⟨f, 1, none⟩ = some (.int .i64 ((if f ∈ Cx then ((S.con f).1.take (m f)).length else (S.con f).2 : Nat))) := by simp [World.cell?, hfw']
            have z1 : w'.frozen? ⟨f, 1, none⟩ = false := by simp [World.frozen?, hfw']
            have hk2 : Keeps (w7.heap.size :: S.fs) w7 w' := HKL.out.grown hgr fun k e hk => by cases e; omega
            have hs2 : SetAt w' w7.heap.size Cx := HSt.out.of_block (hgr.block _ HSt.out.lt (by simp; omega))
            have hb2 : Boxed w' (w7.heap.size + 1) 72 (.map (some w7.heap.size)) := HBx.out.kept hgr (by simp; omega)
            have hw'l : w8.heap.size ≤ w'.heap.size := by omega
            have hk3 : Keeps [f] w' (w'.setCell ⟨f, 1, none⟩ (.int .i64 (((S.con f).1.take (m f)).length : Nat))) := (Keeps.refl _ w').setCell _ _ fun _ => by simp
            have hf3 := cells_set hfw' 1 (.int .i64 (((S.con f).1.take (m f)).length : Nat))
            have hcells : ∀ g ∈ S.fs, IsCells (w'.setCell ⟨f, 1, none⟩ (.int .i64 (((S.con f).1.take (m f)).length : Nat))) g := fun g hg => by
              by_cases e : g = f
              · subst e; exact ⟨_, _, hf3⟩
              · obtain ⟨p', c', h7'⟩ := HF7.out g hg
                have h1 := HCe.out g hg p' c' h7'
                have hgl := HFW.out g hg
                exact ⟨_, _, (hk3.block g (by omega) (by simpa using e)).trans ((hgr.block g (by omega) (by simp; omega)).trans h1)⟩
            have hCf : ∀ g ∈ Cx, g ∈ S.fs := fun g hg => by
              obtain ⟨p, hp, e⟩ := HCx.out g hg
              obtain ⟨g', hg', e'⟩ := HLE.out p hp
              rw [e] at e'
              simp at e'
              obtain rfl : g = g' := by omega
              exact hg'
            obtain ⟨w3, hrun, hs3, hg3, hz3'⟩ := (hk3.set hs2 (by simpa using hfM.symm)).put f (hcells f hf) (fun g hg => hcells g (hCf g hg))
            have hb3 := (hk3.boxed hb2 (by simpa using hfB.symm))
            have hb3c := hb3.cell
            have hb2c := hb2.cell
            have hen' : (Instr.entry (.pointer (some ⟨w8.heap.size, 0, none⟩))).run Try.prog w' = .ok (.tuple #[.string x, .pointer (some ⟨f, 0, none⟩)]) w' := hen
            have hgset : w'.grownBy (w'.setCell ⟨f, 1, none⟩ (.int .i64 (((S.con f).1.take (m f)).length : Nat))) (some f) := ⟨rfl, rfl, rfl, by simp, fun i _ hi => Below.heap_setCell w' ⟨f, 1, none⟩ _ i (fun e => hi (by rw [e]))⟩
            have HRG3 : Hid (w3.ranges Try.prog 9 Rp W.heap.size w8.heap.size (Maps.size S.ls + S.ts.length) (.map es) (fun z => left z && !z.sameKey kl) cnt') :=
              (hrg'.kept hgset (by simpa using hfN.symm) (by simpa using hfne.symm)).kept hg3 (by simp only [ne_eq, Option.some.injEq]; omega) (by simp only [ne_eq, Option.some.injEq]; omega)
            have HM : Hid (w3.rangeLeft W.heap.size w8.heap.size < wr.rangeLeft W.heap.size w8.heap.size) := by rw [HRG3.out.left_eq, HRG.out.left_eq]; exact hlt
            have HS3' := Lib.hid hs3
            have HK3' : Hid (Keeps (w7.heap.size :: S.fs) w7 w3) := ((hk2.setCell _ _ fun _ => List.mem_cons_of_mem _ hf)).grown hg3 (fun k e hk => by cases e; simp)
            have HB3' := Lib.hid (hb3.kept hg3 (by simp))
            have HCE3 : Hid (∀ g ∈ S.fs, ∀ p c, w7.heap[g]? = some (.cells #[.slice p ((S.con g).1.take (m g)).length c, .int .i64 (S.con g).2] 64 (0, 0)) → w3.heap[g]? = some (.cells #[.slice p ((S.con g).1.take (m g)).length c, .int .i64 ((if g ∈ (if f ∈ Cx then Cx else Cx ++ [f]) then ((S.con g).1.take (m g)).length else (S.con g).2 : Nat))] 64 (0, 0))) := fun g hg p' c' h7' => by
              have hgl := HFW.out g hg
              have hin : f ∈ (if f ∈ Cx then Cx else Cx ++ [f]) := by split <;> simp_all
              rw [hg3.block g (by simp; omega) (by simp; omega)]
              by_cases e : g = f
              · subst e
                rw [h7] at h7'
                simp at h7'
                obtain ⟨rfl, rfl⟩ := h7'
                rw [if_pos hin]
                exact hf3
              · have e1 : (g ∈ (if f ∈ Cx then Cx else Cx ++ [f])) ↔ g ∈ Cx := by split <;> simp [e]
                simp only [e1]
                exact (hk3.block g (by omega) (by simpa using e)).trans ((hgr.block g (by omega) (by simp; omega)).trans (HCe.out g hg p' c' h7'))
            have HY := Lib.hid hy
            have HMem := Lib.hid hmem
            have hlen2 := HBL.out f hf
            have hz3 : w8.heap.size ≤ w3.heap.size := by rw [hz3']; simp; omega
            rw [show mkV (some f) = .pointer (some ⟨f, 0, none⟩) from rfl]
            clear hgr hat hkey hRv hrg' hen hs2 hk2 hb2 hcells hs3 hg3 hy hmem hfw' hfwl hk3 hf3 h7 hb3 hCf hz3' hgset
            generalize ((S.con f).1.take (m f)).length = lf at f0 f1 hrun hb3c hlen2
            generalize (if f ∈ Cx then lf else (S.con f).2) = l0 at f1
            go_wp2
            go_roundw
            case rel =>
              refine ⟨_, _, _, HRG3.out, HK3'.out, hz3, HB3'.out, HS3'.out, ?_, ?_, HCE3.out⟩
              · intro g hg
                split at hg
                · exact HCx.out g hg
                · rcases List.mem_append.1 hg with hg | hg
                  · exact HCx.out g hg
                  · obtain rfl := List.mem_singleton.1 hg; exact ⟨_, HMem.out, HY.out⟩
              · intro p hp hl g hpg
                have hin : f ∈ (if f ∈ Cx then Cx else Cx ++ [f]) := by split <;> simp_all
                have hsub : ∀ g ∈ Cx, g ∈ (if f ∈ Cx then Cx else Cx ++ [f]) := fun g hg => by split <;> simp_all
                cases hlp : left p.1
                · exact hsub g (HVi.out p hp hlp g hpg)
                · rw [hlp] at hl
                  have : p = (kl, y) := HPW.out p hp _ HMem.out (by simpa using hl)
                  subst this
                  simp only at hpg
                  rw [HY.out] at hpg
                  simp at hpg
                  obtain rfl : f = g := by omega
                  exact hin
            case measure => exact HM.out
  case stop => exact fun D c pre W _ _ hF _ => hF.elim
end Go.Proofs.Ytebkgkaihjoamaa
