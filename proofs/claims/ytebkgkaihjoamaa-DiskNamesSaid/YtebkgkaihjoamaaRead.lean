/- Contracts of disk.Disk's Read. -/
import Derived.Test.YtebkgkaihjoamaaRow
import Derived.Test.YtebkgkaihjoamaaAsk
namespace Go.Proofs.Ytebkgkaihjoamaa
open Go.RowKit Go.Proofs

/-- 'append(v, src...)' onto an own row: src is any that can be read -/
theorem wpList_append_reads {P : Program} {w : World} {ops : Array Oper} {rest : List Oper} {o : Oper} {a : Act} {Q : Exit → Act → World → Prop} (hgd : o.guard = none) (s x : Operand) (t : TypeId)
    (ho : o.op = .call { callee := .builtin .append, args := #[s, x], argTypes := #[t, t] })
    (base : Nat) (e : TypeId) (i : TypeInfo) (z : Value) (bytes : Nat) (ht : P.underlying t = some (.slice e)) (hi : P.info? e = some i) (hz : i.zero = some z)
    (hsize : i.size = 1) (hby : i.bytes = bytes) (hzs : z.cells.size = 1)
    (v : Value) (n : Nat) (xs : List Value) (hs : a.eval s = v) (hown : w.ownsRow base e 1 v n xs)
    (src : Value) (news : List Value) (hx : a.eval x = src) (hsrc : Reads w src news) (h1 : ∀ u ∈ news, u.oneCell' = true)
    (h63 : n + news.length ≤ maxLen) (hbytes : (n + news.length) * bytes ≤ 140737488355328) (hbase : base ≤ w.heap.size)
    (h : ∀ v' w', w'.ownsRow base e 1 v' (n + news.length) (xs ++ news) → w.grownBy w' v.ownBlock → (v'.ownBlock = v.ownBlock ∨ v'.ownBlock = some w.heap.size) → wpList P ops Q rest (a.put o.dst v') w') :
    wpList P ops Q (o :: rest) a w := by
  have hw : Region.wanted o (yielded ops a.tmps) = true := by simp [Region.wanted, hgd]
  have := step_append_row (K := fun a' w' => wpList P ops Q rest a' w') (Q := Q) (E := True) (ops := ops) hgd s x t ho base e i z bytes ht hi hz hsize hby hzs v n xs hs hown src news hx hsrc h1 h63 hbytes hbase h
  rw [if_pos hw] at this
  unfold wpList
  rw [if_pos hw]
  exact .inl this

set_option maxRecDepth 100000 in
theorem clone8 (w : World) (v : Value) (l : List Value) (h : Reads w v l) (h1 : ∀ u ∈ l, u.oneCell' = true) (hl : l.length ≤ 1000000) :
    Calls Try.prog 46 #[v] w fun e w' => ∃ v', e = .returned v' ∧ w'.ownsRow w.heap.size 5 1 v' l.length l ∧ Keeps [] w w' := by
  obtain ⟨i0, hi, hz0, hz1, hz2⟩ := info_parts info5
  rcases h with ⟨rfl, rfl⟩ | ⟨g, o, cap, rfl, hg, hc⟩
  · have he : ∀ W, (binOp BinOp.eql 29 (.slice none 0 0) (.slice none 0 0)).run Try.prog W = .ok (.bool true) W := fun _ => rfl
    go_enter Try.func46, Try.ntmps46
    go_wp2
    go_ret
    exact ⟨_, rfl, World.ownsRow_nil _ _ _ _, Keeps.refl _ _⟩
  · have H : Hid (Reads w (.slice (some ⟨g, o, none⟩) l.length cap) l) := .inr ⟨g, o, cap, rfl, hg, hc⟩
    clear hc
    have he : ∀ W, (binOp BinOp.eql 29 (.slice (some ⟨g, o, none⟩) l.length cap) (.slice none 0 0)).run Try.prog W = .ok (.bool false) W := fun _ => rfl
    have kA : Keeps [] w (w.alloc (.cells #[] 5)) := (Keeps.refl _ w).alloc _
    have HR := Lib.hid (kA.reads H.out (by simp))
    go_enter Try.func46, Try.ntmps46
    go_wp2_with (first | (at_builtin; refine wpList_append_reads (by rfl) (.tmp 5) (.tmp 6) 29 rfl w.heap.size 5 i0 (.int .u8 0) 1 Try.underlying29 hi hz0 hz1 hz2 rfl _ _ _ rfl (World.ownsRow_made w #[] 0 (Nat.le_refl _) (by decide) rfl) _ _ rfl HR.out h1 ?_ ?_ ?_ ?_))
    · unfold maxLen; omega
    · omega
    · simp
    intro v' w1 hown hgrow _
    have hK : Keeps [] w w1 := kA.grown hgrow (fun k hk hlt => by simp [Value.ownBlock] at hk; omega)
    have HO := Lib.hid hown
    have HK := Lib.hid hK
    clear hown hgrow hK
    go_wp2
    go_ret
    exact ⟨_, rfl, HO.out, HK.out⟩

set_option maxRecDepth 100000 in
theorem clip8 (w : World) (base : Nat) (v : Value) (n : Nat) (l : List Value) (h : w.ownsRow base 5 1 v n l) :
    Calls Try.prog 45 #[v] w fun e w' => ∃ v', e = .returned v' ∧ Reads w v' l ∧ w = w' := by
  have hl : l.length = n := by simpa using h.1
  have HR := Lib.hid (ownsRow_reads h)
  rcases h.2 with ⟨rfl, rfl⟩ | ⟨g, cap, cur, rfl, hg, hh, hn, _⟩
  · obtain rfl : l = [] := List.length_eq_zero_iff.1 hl
    clear h
    go_enter Try.func45, Try.ntmps45
    go_wp2
    go_ret
    exact ⟨_, rfl, .inl ⟨rfl, rfl⟩, rfl⟩
  · have hgl := (Array.getElem?_eq_some_iff.1 hh).1
    have HC := Lib.hid (h.cells rfl)
    clear h hh
    subst hl
    go_enter Try.func45, Try.ntmps45
    go_wp2
    go_ret
    exact ⟨_, rfl, .inr ⟨g, 0, _, rfl, hgl, HC.out⟩, rfl⟩

section
variable {w : World} {D : Nat} {q c st fl fe : Int} {vf : Value} {N L n : Nat} {vt : Value} {nm : DataW Unit}
set_option maxRecDepth 100000 in
theorem read_core (h : DiskIs w D q c st fl fe false vf N L vt) (hN : NamesAt w N n nm) (s : ByteArray) (hs : s.size ≤ maxLen) (ok : nameOk s = true) (f : Nat) (hf : fileOf nm s.data.toList = .lit (.int .i64 (f : Nat)))
    (g cap : Nat) (last : Int) (xs : List Value) (hfile : w.heap[f]? = some (.cells #[.slice (some ⟨g, 0, none⟩) xs.length cap, .int .i64 last] 64 (0, 0))) (hg : g < w.heap.size) (hcells : ∀ j u, xs[j]? = some u → w.cell? ((⟨g, 0, none⟩ : Addr).add j) = some u) (hcap : xs.length ≤ cap) (hk : xs.length ≤ 1000000) (a m : Nat) (hone : ∀ u ∈ xs, u.oneCell' = true)
    (A M : Nat) (hA : (xs.length < a ∧ A = xs.length) ∨ (a ≤ xs.length ∧ A = a)) (hM : (xs.length - A < m ∧ M = xs.length - A) ∨ (m ≤ xs.length - A ∧ M = m)) :
    Calls Try.prog 21 #[.pointer (some ⟨D, 0, none⟩), .string s, .int .i64 a, .int .i64 m] w fun e w' => ∃ v', e = .returned (.tuple #[v', .int .i64 0]) ∧ Reads w' v' ((xs.drop A).take M) ∧ Keeps [] w w' := by
  have HA := Lib.hid (ask_hit h hN s hs ok f hf)
  have cf : w.cell? ⟨f, 0, none⟩ = some (.slice (some ⟨g, 0, none⟩) xs.length cap) := by simp [World.cell?, hfile]
  have hR : Reads w (.slice (if cap = A then some ⟨g, 0, none⟩ else some ⟨g, A, none⟩) M (cap - A)) ((xs.drop A).take M) := by
    have hlen : ((xs.drop A).take M).length = M := by rw [List.length_take, List.length_drop]; omega
    have hget : ∀ j u, ((xs.drop A).take M)[j]? = some u → xs[A + j]? = some u := fun j u hj => by
      have hj1 := (List.getElem?_eq_some_iff.1 hj).1
      rw [hlen] at hj1
      rw [List.getElem?_take, if_pos hj1, List.getElem?_drop] at hj
      exact hj
    have hadd : ∀ (o j : Nat), ((⟨g, o, none⟩ : Addr).add j) = ⟨g, o + j, none⟩ := fun o j => by unfold Addr.add; split <;> simp_all
    by_cases e : cap = A
    · rw [if_pos e]
      refine .inr ⟨g, 0, _, by rw [hlen], hg, fun j u hj => ?_⟩
      have := (List.getElem?_eq_some_iff.1 (hget j u hj)).1
      omega
    · rw [if_neg e]
      refine .inr ⟨g, A, _, by rw [hlen], hg, fun j u hj => ?_⟩
      have := hcells (A + j) u (hget j u hj)
      rw [hadd] at this ⊢
      rw [Nat.zero_add] at this
      exact this
  have HR := Lib.hid (fun j => clone8 (w.drewN j) _ _ (((Keeps.refl [] w).drewN j).reads hR (by simp)) (fun u hu => hone u (List.mem_of_mem_drop (List.mem_of_mem_take hu))) (by rw [List.length_take, List.length_drop]; omega))
  clear h hN hf hfile hcells hR hone
  generalize (xs.drop A).take M = zs at *
  generalize hk0 : xs.length = k at *
  rcases hA with ⟨hA1, rfl⟩ | ⟨hA1, rfl⟩
  · obtain rfl : M = 0 := by omega
    rcases Nat.eq_zero_or_pos m with rfl | hm
    · go_enter Try.func21, Try.ntmps21
      go_wp2_with (go_at_call 44; (with_reducible refine HA.out.mono ?_); rintro e w' ⟨rfl, rfl⟩)
      refine wp_region_tail 17 (by kernel_rfl) (by kernel_rfl) ?_
      simp only [List.take_succ_cons, List.take_zero, List.drop_succ_cons, List.drop_zero]
      repeat (go_big_quiet_step (fail))
      refine wpQuiet_nil ?_
      rintro _ ⟨nq, rfl⟩
      go_wp2_with (first | (go_at_call 46; (with_reducible refine (HR.out nq).mono ?_); rintro e w2 ⟨v2, rfl, h2, h3⟩; (have HC2 := Lib.hid (clip8 _ _ _ _ _ h2)); (have HK := Lib.hid h3); clear h2 h3) | (go_at_call 45; (with_reducible refine HC2.out.mono ?_); rintro e w3 ⟨v3, rfl, h4, rfl⟩; (have HV := Lib.hid h4); clear h4))
      all_goals
        go_ret2
        exact ⟨_, rfl, HV.out, (Keeps.refl _ w).drewN _ |>.trans HK.out⟩
    · go_enter Try.func21, Try.ntmps21
      go_wp2_with (go_at_call 44; (with_reducible refine HA.out.mono ?_); rintro e w' ⟨rfl, rfl⟩)
      refine wp_region_tail 17 (by kernel_rfl) (by kernel_rfl) ?_
      simp only [List.take_succ_cons, List.take_zero, List.drop_succ_cons, List.drop_zero]
      repeat (go_big_quiet_step (fail))
      refine wpQuiet_nil ?_
      rintro _ ⟨nq, rfl⟩
      go_wp2_with (first | (go_at_call 46; (with_reducible refine (HR.out nq).mono ?_); rintro e w2 ⟨v2, rfl, h2, h3⟩; (have HC2 := Lib.hid (clip8 _ _ _ _ _ h2)); (have HK := Lib.hid h3); clear h2 h3) | (go_at_call 45; (with_reducible refine HC2.out.mono ?_); rintro e w3 ⟨v3, rfl, h4, rfl⟩; (have HV := Lib.hid h4); clear h4))
      all_goals
        go_ret2
        exact ⟨_, rfl, HV.out, (Keeps.refl _ w).drewN _ |>.trans HK.out⟩
  · rcases hM with ⟨hM1, rfl⟩ | ⟨hM1, rfl⟩
    · go_enter Try.func21, Try.ntmps21
      go_wp2_with (go_at_call 44; (with_reducible refine HA.out.mono ?_); rintro e w' ⟨rfl, rfl⟩)
      refine wp_region_tail 17 (by kernel_rfl) (by kernel_rfl) ?_
      simp only [List.take_succ_cons, List.take_zero, List.drop_succ_cons, List.drop_zero]
      repeat (go_big_quiet_step (fail))
      refine wpQuiet_nil ?_
      rintro _ ⟨nq, rfl⟩
      go_wp2_with (first | (go_at_call 46; (with_reducible refine (HR.out nq).mono ?_); rintro e w2 ⟨v2, rfl, h2, h3⟩; (have HC2 := Lib.hid (clip8 _ _ _ _ _ h2)); (have HK := Lib.hid h3); clear h2 h3) | (go_at_call 45; (with_reducible refine HC2.out.mono ?_); rintro e w3 ⟨v3, rfl, h4, rfl⟩; (have HV := Lib.hid h4); clear h4))
      all_goals
        go_ret2
        exact ⟨_, rfl, HV.out, (Keeps.refl _ w).drewN _ |>.trans HK.out⟩
    · go_enter Try.func21, Try.ntmps21
      go_wp2_with (go_at_call 44; (with_reducible refine HA.out.mono ?_); rintro e w' ⟨rfl, rfl⟩)
      refine wp_region_tail 17 (by kernel_rfl) (by kernel_rfl) ?_
      simp only [List.take_succ_cons, List.take_zero, List.drop_succ_cons, List.drop_zero]
      repeat (go_big_quiet_step (fail))
      refine wpQuiet_nil ?_
      rintro _ ⟨nq, rfl⟩
      go_wp2_with (first | (go_at_call 46; (with_reducible refine (HR.out nq).mono ?_); rintro e w2 ⟨v2, rfl, h2, h3⟩; (have HC2 := Lib.hid (clip8 _ _ _ _ _ h2)); (have HK := Lib.hid h3); clear h2 h3) | (go_at_call 45; (with_reducible refine HC2.out.mono ?_); rintro e w3 ⟨v3, rfl, h4, rfl⟩; (have HV := Lib.hid h4); clear h4))
      all_goals
        go_ret2
        exact ⟨_, rfl, HV.out, (Keeps.refl _ w).drewN _ |>.trans HK.out⟩

set_option maxRecDepth 100000 in
theorem read_none (h : DiskIs w D q c st fl fe false vf N L vt) (hN : NamesAt w N n nm) (s : ByteArray) (hs : s.size ≤ maxLen) (ok : nameOk s = true) (f : Nat) (hf : fileOf nm s.data.toList = .lit (.int .i64 (f : Nat)))
    (cap : Nat) (last : Int) (hfile : w.heap[f]? = some (.cells #[.slice none 0 cap, .int .i64 last] 64 (0, 0))) (hcap : cap = 0) (a m : Nat) :
    Calls Try.prog 21 #[.pointer (some ⟨D, 0, none⟩), .string s, .int .i64 a, .int .i64 m] w fun e w' => ∃ v', e = .returned (.tuple #[v', .int .i64 0]) ∧ Reads w' v' [] ∧ Keeps [] w w' := by
  subst hcap
  have HA := Lib.hid (ask_hit h hN s hs ok f hf)
  have cf : w.cell? ⟨f, 0, none⟩ = some (.slice none 0 0) := by simp [World.cell?, hfile]
  have HR := Lib.hid (fun j => clone8 (w.drewN j) (.slice none 0 0) [] (.inl ⟨rfl, rfl⟩) (by simp) (by simp))
  clear h hN hf hfile
  rcases Nat.eq_zero_or_pos a with rfl | ha
  · rcases Nat.eq_zero_or_pos m with rfl | hm
    · go_enter Try.func21, Try.ntmps21
      go_wp2_with (go_at_call 44; (with_reducible refine HA.out.mono ?_); rintro e w' ⟨rfl, rfl⟩)
      refine wp_region_tail 17 (by kernel_rfl) (by kernel_rfl) ?_
      simp only [List.take_succ_cons, List.take_zero, List.drop_succ_cons, List.drop_zero]
      repeat (go_big_quiet_step (fail))
      refine wpQuiet_nil ?_
      rintro _ ⟨nq, rfl⟩
      go_wp2_with (first | (go_at_call 46; (with_reducible refine (HR.out nq).mono ?_); rintro e w2 ⟨v2, rfl, h2, h3⟩; (have HC2 := Lib.hid (clip8 _ _ _ _ _ h2)); (have HK := Lib.hid h3); clear h2 h3) | (go_at_call 45; (with_reducible refine HC2.out.mono ?_); rintro e w3 ⟨v3, rfl, h4, rfl⟩; (have HV := Lib.hid h4); clear h4))
      all_goals
        go_ret2
        exact ⟨_, rfl, HV.out, (Keeps.refl _ w).drewN _ |>.trans HK.out⟩
    · go_enter Try.func21, Try.ntmps21
      go_wp2_with (go_at_call 44; (with_reducible refine HA.out.mono ?_); rintro e w' ⟨rfl, rfl⟩)
      refine wp_region_tail 17 (by kernel_rfl) (by kernel_rfl) ?_
      simp only [List.take_succ_cons, List.take_zero, List.drop_succ_cons, List.drop_zero]
      repeat (go_big_quiet_step (fail))
      refine wpQuiet_nil ?_
      rintro _ ⟨nq, rfl⟩
      go_wp2_with (first | (go_at_call 46; (with_reducible refine (HR.out nq).mono ?_); rintro e w2 ⟨v2, rfl, h2, h3⟩; (have HC2 := Lib.hid (clip8 _ _ _ _ _ h2)); (have HK := Lib.hid h3); clear h2 h3) | (go_at_call 45; (with_reducible refine HC2.out.mono ?_); rintro e w3 ⟨v3, rfl, h4, rfl⟩; (have HV := Lib.hid h4); clear h4))
      all_goals
        go_ret2
        exact ⟨_, rfl, HV.out, (Keeps.refl _ w).drewN _ |>.trans HK.out⟩
  · rcases Nat.eq_zero_or_pos m with rfl | hm
    · go_enter Try.func21, Try.ntmps21
      go_wp2_with (go_at_call 44; (with_reducible refine HA.out.mono ?_); rintro e w' ⟨rfl, rfl⟩)
      refine wp_region_tail 17 (by kernel_rfl) (by kernel_rfl) ?_
      simp only [List.take_succ_cons, List.take_zero, List.drop_succ_cons, List.drop_zero]
      repeat (go_big_quiet_step (fail))
      refine wpQuiet_nil ?_
      rintro _ ⟨nq, rfl⟩
      go_wp2_with (first | (go_at_call 46; (with_reducible refine (HR.out nq).mono ?_); rintro e w2 ⟨v2, rfl, h2, h3⟩; (have HC2 := Lib.hid (clip8 _ _ _ _ _ h2)); (have HK := Lib.hid h3); clear h2 h3) | (go_at_call 45; (with_reducible refine HC2.out.mono ?_); rintro e w3 ⟨v3, rfl, h4, rfl⟩; (have HV := Lib.hid h4); clear h4))
      all_goals
        go_ret2
        exact ⟨_, rfl, HV.out, (Keeps.refl _ w).drewN _ |>.trans HK.out⟩
    · go_enter Try.func21, Try.ntmps21
      go_wp2_with (go_at_call 44; (with_reducible refine HA.out.mono ?_); rintro e w' ⟨rfl, rfl⟩)
      refine wp_region_tail 17 (by kernel_rfl) (by kernel_rfl) ?_
      simp only [List.take_succ_cons, List.take_zero, List.drop_succ_cons, List.drop_zero]
      repeat (go_big_quiet_step (fail))
      refine wpQuiet_nil ?_
      rintro _ ⟨nq, rfl⟩
      go_wp2_with (first | (go_at_call 46; (with_reducible refine (HR.out nq).mono ?_); rintro e w2 ⟨v2, rfl, h2, h3⟩; (have HC2 := Lib.hid (clip8 _ _ _ _ _ h2)); (have HK := Lib.hid h3); clear h2 h3) | (go_at_call 45; (with_reducible refine HC2.out.mono ?_); rintro e w3 ⟨v3, rfl, h4, rfl⟩; (have HV := Lib.hid h4); clear h4))
      all_goals
        go_ret2
        exact ⟨_, rfl, HV.out, (Keeps.refl _ w).drewN _ |>.trans HK.out⟩

/-- Read, of a name that is there -/
theorem read_hit (h : DiskIs w D q c st fl fe false vf N L vt) (hN : NamesAt w N n nm) (s : ByteArray) (hs : s.size ≤ maxLen) (ok : nameOk s = true) (f : Nat) (hf : fileOf nm s.data.toList = .lit (.int .i64 (f : Nat)))
    (base : Nat) (v : Value) (last : Int) (k : Nat) (xs : List Value) (hfile : w.heap[f]? = some (.cells #[v, .int .i64 last] 64 (0, 0))) (hv : w.ownsRow base 5 1 v k xs) (hk : k ≤ 1000000) (a m : Nat) (hone : ∀ u ∈ xs, u.oneCell' = true) :
    Calls Try.prog 21 #[.pointer (some ⟨D, 0, none⟩), .string s, .int .i64 a, .int .i64 m] w fun e w' => ∃ v', e = .returned (.tuple #[v', .int .i64 0]) ∧ Reads w' v' ((xs.drop a).take m) ∧ Keeps [] w w' := by
  have hl : xs.length = k := by simpa using hv.1
  rcases hv.2 with ⟨rfl, rfl⟩ | ⟨g, cap, cur, rfl, hg, hh, hn, _⟩
  · obtain rfl : xs = [] := List.length_eq_zero_iff.1 hl
    simpa using read_none h hN s hs ok f hf 0 last hfile rfl a m
  · subst hl
    have := read_core h hN s hs ok f hf g cap last xs hfile (Array.getElem?_eq_some_iff.1 hh).1 (hv.cells rfl) hn hk a m hone (min a xs.length) (min m (xs.length - min a xs.length)) (by omega) (by omega)
    have e : (xs.drop (min a xs.length)).take (min m (xs.length - min a xs.length)) = (xs.drop a).take m := by
      rcases Nat.lt_or_ge a xs.length with ha | ha
      · rw [Nat.min_eq_left (Nat.le_of_lt ha)]
        rcases Nat.lt_or_ge m (xs.length - a) with h2 | h2
        · rw [Nat.min_eq_left (Nat.le_of_lt h2)]
        · rw [Nat.min_eq_right h2, List.take_of_length_le (by simp), List.take_of_length_le (by simpa using h2)]
      · rw [Nat.min_eq_right ha, List.drop_eq_nil_of_le (Nat.le_refl _), List.drop_eq_nil_of_le ha]; simp
    rwa [e] at this
theorem read_neg (h : DiskIs w D q c st fl fe false vf N L vt) (hN : NamesAt w N n nm) (s : ByteArray) (hs : s.size ≤ maxLen) (ok : nameOk s = true) (f : Nat) (hf : fileOf nm s.data.toList = .lit (.int .i64 (f : Nat))) (a m : Int) (hneg : a < 0 ∨ m < 0) :
    Calls Try.prog 21 #[.pointer (some ⟨D, 0, none⟩), .string s, .int .i64 a, .int .i64 m] w fun e w' => e = .returned (.tuple #[.slice none 0 0, .int .i64 1]) ∧ w = w' := by
  have HA := Lib.hid (ask_hit h hN s hs ok f hf)
  clear h hN
  by_cases ha : a < 0
  · go_enter Try.func21, Try.ntmps21
    go_wp2_with (go_at_call 44; (with_reducible refine HA.out.mono ?_); rintro e w' ⟨rfl, rfl⟩)
    go_ret2
    exact ⟨rfl, rfl⟩
  · have hm : m < 0 := by omega
    go_enter Try.func21, Try.ntmps21
    go_wp2_with (go_at_call 44; (with_reducible refine HA.out.mono ?_); rintro e w' ⟨rfl, rfl⟩)
    go_ret2
    exact ⟨rfl, rfl⟩
theorem read_miss (h : DiskIs w D q c st fl fe false vf N L vt) (hN : NamesAt w N n nm) (s : ByteArray) (hs : s.size ≤ maxLen) (ok : nameOk s = true) (hf : fileOf nm s.data.toList = .lit (.int .i64 (-1))) (a m : Int) :
    Calls Try.prog 21 #[.pointer (some ⟨D, 0, none⟩), .string s, .int .i64 a, .int .i64 m] w fun e w' => e = .returned (.tuple #[.slice none 0 0, .int .i64 11]) ∧ w = w' := by
  have HA := Lib.hid (ask_miss h hN s hs ok hf)
  clear h hN
  go_enter Try.func21, Try.ntmps21
  go_wp2_with (go_at_call 44; (with_reducible refine HA.out.mono ?_); rintro e w' ⟨rfl, rfl⟩)
  go_ret2
  exact ⟨rfl, rfl⟩
theorem read_bad (s : ByteArray) (hs : s.size ≤ maxLen) (ok : nameOk s = false) (a m : Int) :
    Calls Try.prog 21 #[.pointer (some ⟨D, 0, none⟩), .string s, .int .i64 a, .int .i64 m] w fun e w' => e = .returned (.tuple #[.slice none 0 0, .int .i64 10]) ∧ w = w' := by
  have HA := Lib.hid (ask_bad (w := w) (D := D) s hs ok)
  go_enter Try.func21, Try.ntmps21
  go_wp2_with (go_at_call 44; (with_reducible refine HA.out.mono ?_); rintro e w' ⟨rfl, rfl⟩)
  go_ret2
  exact ⟨rfl, rfl⟩
end
end Go.Proofs.Ytebkgkaihjoamaa
