/- Plain law of the wavelet matrix: rows, levels, ranks, lesser ones and places of a symbol. -/
import Derived.Test.YtekpjfbhhfcjnaaMore
namespace Go.Proofs.Ytekpjfbhhfcjnaa

/-- the bit of a symbol that a level asks for: the highest of nine first -/
def wbit (c k : Nat) : Bool := c / 2 ^ (8 - k) % 2 == 1
def lowR (r : List Nat) (k : Nat) : List Nat := r.filter fun c => !wbit c k
def highR (r : List Nat) (k : Nat) : List Nat := r.filter fun c => wbit c k
/-- the row of a level -/
def rowK (l : List Nat) : Nat → List Nat
  | 0 => l
  | k + 1 => lowR (rowK l k) k ++ highR (rowK l k) k
def bitsK (l : List Nat) (k : Nat) : List Bool := (rowK l k).map fun c => wbit c k
def zsK (l : List Nat) (k : Nat) : Nat := (lowR (rowK l k) k).length
/-- how many of a row are a symbol -/
def cntC (c : Nat) (r : List Nat) : Nat := (r.filter fun x => x == c).length

theorem len_low_high (r : List Nat) (k : Nat) : (lowR r k).length + (highR r k).length = r.length := by
  unfold lowR highR
  induction r with
  | nil => rfl
  | cons x r ih => simp only [List.filter_cons]; cases wbit x k <;> simp <;> omega
theorem rowK_length (l : List Nat) : ∀ k, (rowK l k).length = l.length
  | 0 => rfl
  | k + 1 => by rw [rowK, List.length_append, len_low_high, rowK_length l k]
theorem bitsK_length (l : List Nat) (k : Nat) : (bitsK l k).length = l.length := by unfold bitsK; rw [List.length_map, rowK_length]
theorem bitsK_get (l : List Nat) (k i : Nat) (h : i < l.length) : ((bitsK l k)[i]?).getD false = wbit ((rowK l k)[i]'(by rw [rowK_length]; exact h)) k := by
  unfold bitsK
  rw [List.getElem?_map, List.getElem?_eq_getElem (by rw [rowK_length]; exact h)]
  rfl
theorem ones_high (r : List Nat) (k : Nat) : ∀ i, i ≤ r.length → onesAt (r.map fun c => wbit c k) i = (highR (r.take i) k).length
  | 0, _ => by simp [onesAt, cnt, highR]
  | i + 1, h => by
    rw [onesAt_succ, ones_high r k i (by omega), List.take_succ_eq_append_getElem (by omega)]
    unfold highR
    rw [List.filter_append, List.length_append]
    simp only [List.getElem?_map, List.getElem?_eq_getElem (show i < r.length by omega), Option.map_some, Option.getD_some]
    cases hb : wbit r[i] k <;> simp [hb]
theorem zeros_low (r : List Nat) (k i : Nat) (h : i ≤ r.length) : zerosAt (r.map fun c => wbit c k) i = (lowR (r.take i) k).length := by
  have h1 := ones_high r k i h
  have h2 := ones_zeros (r.map fun c => wbit c k) i
  have h3 := len_low_high (r.take i) k
  rw [List.length_take] at h3
  omega
theorem zs_eq (l : List Nat) (k : Nat) : zsK l k = zerosAt (bitsK l k) l.length := by
  unfold zsK bitsK
  rw [zeros_low _ _ _ (by rw [rowK_length]; exact Nat.le_refl _), List.take_of_length_le (by rw [rowK_length]; exact Nat.le_refl _)]

/-- a piece of a row -/
def seg (r : List Nat) (lo hi : Nat) : List Nat := (r.take hi).drop lo
theorem seg_length (r : List Nat) (lo hi : Nat) (h : hi ≤ r.length) : (seg r lo hi).length = hi - lo := by
  unfold seg; simp; omega
theorem filter_take_pre (p : Nat → Bool) (r : List Nat) (i : Nat) : (r.filter p).take ((r.take i).filter p).length = (r.take i).filter p := by
  conv => lhs; rw [show r = r.take i ++ r.drop i from (List.take_append_drop i r).symm]
  rw [List.filter_append, List.take_append_of_le_length (by rw [List.take_append_drop]; exact Nat.le_refl _), List.take_append_drop]
  exact List.take_of_length_le (Nat.le_refl _)
theorem filter_seg (p : Nat → Bool) (r : List Nat) (lo hi : Nat) (h : lo ≤ hi) : seg (r.filter p) ((r.take lo).filter p).length ((r.take hi).filter p).length = (seg r lo hi).filter p := by
  unfold seg
  rw [filter_take_pre]
  have e : r.take hi = r.take lo ++ (r.take hi).drop lo := by
    conv => lhs; rw [← List.take_append_drop lo (r.take hi)]
    rw [List.take_take, Nat.min_eq_left h]
  conv => lhs; rw [e]
  rw [List.filter_append, List.drop_append_of_le_length (Nat.le_refl _), List.drop_length, List.nil_append]
theorem seg_append_left (a b : List Nat) (lo hi : Nat) (h : hi ≤ a.length) : seg (a ++ b) lo hi = seg a lo hi := by
  unfold seg; rw [List.take_append_of_le_length h]
theorem seg_append_right (a b : List Nat) (lo hi : Nat) : seg (a ++ b) (a.length + lo) (a.length + hi) = seg b lo hi := by
  unfold seg
  rw [List.take_length_add_append, List.drop_length_add_append]

/-- where a place of a level leads to, by a bit -/
def downK (l : List Nat) (k : Nat) (set : Bool) (i : Nat) : Nat := if set then zsK l k + onesAt (bitsK l k) i else zerosAt (bitsK l k) i
theorem down_mono (l : List Nat) (k : Nat) (set : Bool) {i j : Nat} (h : i ≤ j) : downK l k set i ≤ downK l k set j := by
  unfold downK
  cases set
  · exact zerosAt_mono _ h
  · have := onesAt_mono (bitsK l k) h
    simp only [if_true]
    omega
theorem down_le (l : List Nat) (k : Nat) (set : Bool) {i : Nat} (h : i ≤ l.length) : downK l k set i ≤ l.length := by
  refine Nat.le_trans (down_mono l k set h) ?_
  have h1 := ones_zeros (bitsK l k) l.length
  have h2 := zs_eq l k
  unfold downK
  cases set <;> simp <;> omega
theorem down_seg (l : List Nat) (k : Nat) (set : Bool) (lo hi : Nat) (h : lo ≤ hi) (hn : hi ≤ l.length) :
    seg (rowK l (k + 1)) (downK l k set lo) (downK l k set hi) = (seg (rowK l k) lo hi).filter fun x => wbit x k == set := by
  have hr : (rowK l k).length = l.length := rowK_length l k
  unfold downK bitsK
  rw [rowK]
  cases set
  · simp only [Bool.false_eq_true, if_false]
    rw [zeros_low _ _ _ (by omega), zeros_low _ _ _ (by omega), seg_append_left]
    · have := filter_seg (fun c => !wbit c k) (rowK l k) lo hi h
      unfold lowR
      rw [this]
      congr 1
      funext x
      cases wbit x k <;> rfl
    · unfold lowR
      rw [← filter_take_pre (fun c => !wbit c k) (rowK l k) hi]
      exact List.length_take_le' _ _
  · simp only [if_true]
    rw [ones_high _ _ _ (by omega), ones_high _ _ _ (by omega)]
    have e : zsK l k = (lowR (rowK l k) k).length := rfl
    rw [e, seg_append_right]
    · have := filter_seg (fun c => wbit c k) (rowK l k) lo hi h
      unfold highR
      rw [this]
      congr 1
      funext x
      cases wbit x k <;> rfl

/-- the first k of nine bits are alike -/
def agree (c k x : Nat) : Bool := x / 2 ^ (9 - k) == c / 2 ^ (9 - k)
theorem pow_step (k : Nat) (h : k < 9) : 2 ^ (9 - k) = 2 ^ (8 - k) * 2 := by rw [← Nat.pow_succ]; congr 1; omega
theorem agree_succ (c k x : Nat) (h : k < 9) : agree c (k + 1) x = (agree c k x && (wbit x k == wbit c k)) := by
  unfold agree wbit
  rw [show 9 - (k + 1) = 8 - k by omega, pow_step k h, ← Nat.div_div_eq_div_mul, ← Nat.div_div_eq_div_mul]
  generalize x / 2 ^ (8 - k) = a
  generalize c / 2 ^ (8 - k) = b
  rw [Bool.eq_iff_iff]
  simp only [beq_iff_eq, Bool.and_eq_true]
  constructor
  · rintro rfl; simp
  · rintro ⟨h1, h2⟩
    by_cases ha : a % 2 = 1
    · have hb : b % 2 = 1 := by
        by_cases hb : b % 2 = 1
        · exact hb
        · rw [beq_iff_eq.2 ha, beq_eq_false_iff_ne.2 hb] at h2; cases h2
      omega
    · have hb : ¬ b % 2 = 1 := fun hb => by
        rw [beq_iff_eq.2 hb, beq_eq_false_iff_ne.2 ha] at h2; cases h2
      omega
/-- the places of a symbol's first k bits, out of the places lo and hi of the whole row -/
def placeK (l : List Nat) (c : Nat) : Nat → Nat → Nat
  | 0, i => i
  | k + 1, i => downK l k (wbit c k) (placeK l c k i)
theorem placeK_mono (l : List Nat) (c : Nat) : ∀ k {i j : Nat}, i ≤ j → placeK l c k i ≤ placeK l c k j
  | 0, _, _, h => h
  | k + 1, _, _, h => down_mono l k _ (placeK_mono l c k h)
theorem placeK_le (l : List Nat) (c : Nat) : ∀ k {i : Nat}, i ≤ l.length → placeK l c k i ≤ l.length
  | 0, _, h => h
  | k + 1, _, h => down_le l k _ (placeK_le l c k h)
theorem placeK_seg (l : List Nat) (c : Nat) (hl : ∀ x ∈ l, x < 512) (hc : c < 512) (i : Nat) (hi : i ≤ l.length) : ∀ k, k ≤ 9 →
    seg (rowK l k) (placeK l c k 0) (placeK l c k i) = (l.take i).filter (agree c k)
  | 0, _ => by
    simp only [placeK, rowK, seg, List.drop_zero]
    rw [List.filter_eq_self.2]
    intro x hx
    have := hl x (List.mem_of_mem_take hx)
    unfold agree
    simp
    omega
  | k + 1, h => by
    have ih := placeK_seg l c hl hc i hi k (by omega)
    have := down_seg l k (wbit c k) (placeK l c k 0) (placeK l c k i) (placeK_mono l c k (Nat.zero_le _)) (placeK_le l c k hi)
    simp only [placeK]
    rw [this, ih, List.filter_filter]
    congr 1
    funext x
    rw [agree_succ c k x (by omega), Bool.and_comm]
theorem agree_nine (c x : Nat) : agree c 9 x = (x == c) := by unfold agree; simp
/-- Rank -/
theorem rank_place (l : List Nat) (c : Nat) (hl : ∀ x ∈ l, x < 512) (hc : c < 512) (i : Nat) (hi : i ≤ l.length) : placeK l c 9 i - placeK l c 9 0 = cntC c (l.take i) := by
  have h := placeK_seg l c hl hc i hi 9 (Nat.le_refl _)
  have h2 := congrArg List.length h
  rw [seg_length _ _ _ (by rw [rowK_length]; exact placeK_le l c 9 hi)] at h2
  rw [h2]
  unfold cntC
  congr 2
  funext x
  exact agree_nine c x

/-- how many of the first i lie below a symbol, as far as the first k bits tell -/
def lessTo (l : List Nat) (c i k : Nat) : Nat := ((l.take i).filter fun x => decide (x / 2 ^ (9 - k) < c / 2 ^ (9 - k))).length
theorem filter_len_or (p q : Nat → Bool) (r : List Nat) (hd : ∀ x ∈ r, p x = true → q x = false) : (r.filter fun x => p x || q x).length = (r.filter p).length + (r.filter q).length := by
  induction r with
  | nil => rfl
  | cons x r ih =>
    have ih := ih (fun y hy => hd y (by simp [hy]))
    have := hd x (by simp)
    simp only [List.filter_cons]
    cases hp : p x <;> cases hq : q x <;> simp [hp, hq] at this ⊢ <;> omega
theorem lessTo_zero (l : List Nat) (c i : Nat) (hc : c < 512) : lessTo l c i 0 = 0 := by
  unfold lessTo
  rw [List.filter_eq_nil_iff.2]
  · rfl
  · intro x _
    simp
    omega
theorem lessTo_succ (l : List Nat) (c : Nat) (hl : ∀ x ∈ l, x < 512) (hc : c < 512) (i : Nat) (hi : i ≤ l.length) (k : Nat) (hk : k < 9) :
    lessTo l c i (k + 1) = lessTo l c i k + if wbit c k then downK l k false (placeK l c k i) - downK l k false (placeK l c k 0) else 0 := by
  have hs := down_seg l k false (placeK l c k 0) (placeK l c k i) (placeK_mono l c k (Nat.zero_le _)) (placeK_le l c k hi)
  rw [placeK_seg l c hl hc i hi k (by omega), List.filter_filter] at hs
  have hlen := congrArg List.length hs
  rw [seg_length _ _ _ (by rw [rowK_length]; exact down_le l k _ (placeK_le l c k hi))] at hlen
  rw [hlen]
  have key : ∀ x, decide (x / 2 ^ (9 - (k + 1)) < c / 2 ^ (9 - (k + 1))) = (decide (x / 2 ^ (9 - k) < c / 2 ^ (9 - k)) || (wbit c k && (wbit x k == false && agree c k x))) := by
    intro x
    unfold agree wbit
    rw [show 9 - (k + 1) = 8 - k by omega, pow_step k hk, ← Nat.div_div_eq_div_mul, ← Nat.div_div_eq_div_mul]
    generalize x / 2 ^ (8 - k) = a
    generalize c / 2 ^ (8 - k) = b
    rw [Bool.eq_iff_iff]
    simp
    omega
  unfold lessTo
  rw [show (fun x => decide (x / 2 ^ (9 - (k + 1)) < c / 2 ^ (9 - (k + 1)))) = fun x => (decide (x / 2 ^ (9 - k) < c / 2 ^ (9 - k)) || (wbit c k && (wbit x k == false && agree c k x))) from funext key]
  rw [filter_len_or]
  · congr 1
    cases wbit c k
    · simp
    · simp
  · intro x _ h
    simp at h
    simp [agree]
    intro _ _
    omega
theorem lessTo_nine (l : List Nat) (c i : Nat) : lessTo l c i 9 = ((l.take i).filter fun x => decide (x < c)).length := by
  unfold lessTo
  simp

theorem cntC_append (c : Nat) (a b : List Nat) : cntC c (a ++ b) = cntC c a + cntC c b := by unfold cntC; rw [List.filter_append, List.length_append]
theorem cntC_le (c : Nat) (r : List Nat) : cntC c r ≤ r.length := List.length_filter_le _ _
theorem cntC_high (c k : Nat) (r : List Nat) : cntC c (highR r k) = if wbit c k then cntC c r else 0 := by
  unfold cntC highR
  rw [List.filter_filter]
  cases hb : wbit c k
  · simp only [Bool.false_eq_true, if_false]
    rw [List.filter_eq_nil_iff.2]
    · rfl
    · intro x _ h
      simp at h
      obtain ⟨rfl, h⟩ := h
      rw [hb] at h; cases h
  · simp only [if_true]
    congr 2
    funext x
    by_cases e : x = c
    · subst e; simp [hb]
    · simp [e]
theorem cntC_low (c k : Nat) (r : List Nat) : cntC c (lowR r k) = if wbit c k then 0 else cntC c r := by
  unfold cntC lowR
  rw [List.filter_filter]
  cases hb : wbit c k
  · simp only [Bool.false_eq_true, if_false]
    congr 2
    funext x
    by_cases e : x = c
    · subst e; simp [hb]
    · simp [e]
  · simp only [if_true]
    rw [List.filter_eq_nil_iff.2]
    · rfl
    · intro x _ h
      simp at h
      obtain ⟨rfl, h⟩ := h
      rw [hb] at h; cases h
theorem cntC_row (c : Nat) (l : List Nat) : ∀ k, cntC c (rowK l k) = cntC c l
  | 0 => rfl
  | k + 1 => by
    rw [rowK, cntC_append, cntC_high, cntC_low, ← cntC_row c l k]
    cases wbit c k <;> simp

/-- p is the place of the j-th c -/
def Nth (r : List Nat) (c j p : Nat) : Prop := r[p]? = some c ∧ cntC c (r.take p) = j
theorem Nth.lt {r : List Nat} {c j p : Nat} (h : Nth r c j p) : p < r.length := (List.getElem?_eq_some_iff.1 h.1).1

theorem filter_at (q : Nat → Bool) (r : List Nat) (p : Nat) (h : p < r.length) (hq : q r[p] = true) : (r.filter q)[((r.take p).filter q).length]? = some r[p] := by
  conv => lhs; rw [show r = r.take p ++ r[p] :: r.drop (p + 1) from by rw [← List.drop_eq_getElem_cons h, List.take_append_drop]]
  rw [List.filter_append, List.getElem?_append_right]
  · simp only [List.filter_cons, hq, if_true]
    have e : (List.take p (List.take p r ++ r[p] :: List.drop (p + 1) r)) = List.take p r := by
      rw [List.take_append_of_le_length (by simp; omega), List.take_take, Nat.min_self]
    rw [e, Nat.sub_self]
    rfl
  · have e : (List.take p (List.take p r ++ r[p] :: List.drop (p + 1) r)) = List.take p r := by
      rw [List.take_append_of_le_length (by simp; omega), List.take_take, Nat.min_self]
    rw [e]
    exact Nat.le_refl _

theorem up_high (l : List Nat) (c k j q : Nat) (hb : wbit c k = true) (h : Nth (rowK l (k + 1)) c j q) :
    zsK l k ≤ q ∧ q - zsK l k < onesAt (bitsK l k) l.length ∧ ∀ p, p < l.length → onesAt (bitsK l k) p = q - zsK l k → ((bitsK l k)[p]?).getD false = true → Nth (rowK l k) c j p := by
  obtain ⟨h1, h2⟩ := h
  have hr : (rowK l k).length = l.length := rowK_length l k
  have hz : (lowR (rowK l k) k).length = zsK l k := rfl
  rw [rowK] at h1 h2
  have hq : zsK l k ≤ q := by
    rw [← hz]
    refine Nat.le_of_not_lt fun hlt => ?_
    rw [List.getElem?_append_left hlt] at h1
    have := (List.mem_filter.1 (List.mem_of_getElem? h1)).2
    rw [hb] at this
    cases this
  rw [List.getElem?_append_right (by omega), hz] at h1
  have hlt := (List.getElem?_eq_some_iff.1 h1).1
  have ho := ones_high (rowK l k) k l.length (by omega)
  rw [List.take_of_length_le (by omega)] at ho
  refine ⟨hq, by unfold bitsK; rw [ho]; exact hlt, fun p hp ho2 hbit => ?_⟩
  have hpr : p < (rowK l k).length := by omega
  rw [bitsK_get l k p hp] at hbit
  unfold bitsK at ho2
  rw [ones_high _ _ _ (by omega)] at ho2
  have hf := filter_at (fun c => wbit c k) (rowK l k) p hpr hbit
  have e1 : ((rowK l k).take p |>.filter fun c => wbit c k).length = q - zsK l k := ho2
  rw [e1] at hf
  have hc : (rowK l k)[p] = c := by
    have := h1.symm.trans hf
    simpa using this.symm
  refine ⟨by rw [List.getElem?_eq_getElem hpr, hc], ?_⟩
  rw [show q = (lowR (rowK l k) k).length + (q - zsK l k) by omega, List.take_length_add_append, cntC_append, cntC_low, if_pos hb, Nat.zero_add] at h2
  rw [← h2]
  have e2 := filter_take_pre (fun c => wbit c k) (rowK l k) p
  rw [e1] at e2
  have e3 : (highR (rowK l k) k).take (q - zsK l k) = highR ((rowK l k).take p) k := e2
  rw [e3, cntC_high, if_pos hb]
theorem up_low (l : List Nat) (c k j q : Nat) (hb : wbit c k = false) (h : Nth (rowK l (k + 1)) c j q) :
    q < zerosAt (bitsK l k) l.length ∧ ∀ p, p < l.length → zerosAt (bitsK l k) p = q → ((bitsK l k)[p]?).getD false = false → Nth (rowK l k) c j p := by
  obtain ⟨h1, h2⟩ := h
  have hr : (rowK l k).length = l.length := rowK_length l k
  have hz : (lowR (rowK l k) k).length = zsK l k := rfl
  rw [rowK] at h1 h2
  have hq : q < zsK l k := by
    rw [← hz]
    refine Nat.lt_of_not_le fun hle => ?_
    rw [List.getElem?_append_right hle] at h1
    have := (List.mem_filter.1 (List.mem_of_getElem? h1)).2
    rw [hb] at this
    cases this
  rw [List.getElem?_append_left (by omega)] at h1
  refine ⟨by rw [← zs_eq]; exact hq, fun p hp ho2 hbit => ?_⟩
  have hpr : p < (rowK l k).length := by omega
  rw [bitsK_get l k p hp] at hbit
  unfold bitsK at ho2
  rw [zeros_low _ _ _ (by omega)] at ho2
  have hf := filter_at (fun c => !wbit c k) (rowK l k) p hpr (by rw [hbit]; rfl)
  have e1 : ((rowK l k).take p |>.filter fun c => !wbit c k).length = q := ho2
  rw [e1] at hf
  have hc : (rowK l k)[p] = c := by
    have := h1.symm.trans hf
    simpa using this.symm
  refine ⟨by rw [List.getElem?_eq_getElem hpr, hc], ?_⟩
  rw [List.take_append_of_le_length (by omega)] at h2
  rw [← h2]
  have e2 := filter_take_pre (fun c => !wbit c k) (rowK l k) p
  rw [e1] at e2
  have e3 : (lowR (rowK l k) k).take q = lowR ((rowK l k).take p) k := e2
  rw [e3, cntC_low, if_neg (by rw [hb]; simp)]
theorem bottom_nth (l : List Nat) (c : Nat) (hl : ∀ x ∈ l, x < 512) (hc : c < 512) (j : Nat) (hj : j < cntC c l) : Nth (rowK l 9) c j (placeK l c 9 0 + j) := by
  have h := placeK_seg l c hl hc l.length (Nat.le_refl _) 9 (Nat.le_refl _)
  have hr := rank_place l c hl hc l.length (Nat.le_refl _)
  have hm := placeK_mono l c 9 (Nat.zero_le l.length)
  have hle := placeK_le l c 9 (Nat.le_refl l.length)
  have hlen : (rowK l 9).length = l.length := rowK_length l 9
  have htot := cntC_row c l 9
  rw [List.take_length] at h hr
  have e9 : l.filter (agree c 9) = l.filter fun x => x == c := List.filter_congr fun x _ => agree_nine c x
  rw [e9] at h
  generalize placeK l c 9 0 = lo at *
  generalize placeK l c 9 l.length = hi at *
  generalize rowK l 9 = r at *
  have hcs : cntC c (seg r lo hi) = cntC c l := by rw [h]; unfold cntC; rw [List.filter_filter]; congr 2; funext x; simp
  have hsplit : r = r.take lo ++ (seg r lo hi ++ r.drop hi) := by
    unfold seg
    rw [← List.append_assoc]
    have : r.take lo ++ (r.take hi).drop lo = r.take hi := by
      conv => rhs; rw [← List.take_append_drop lo (r.take hi)]
      rw [List.take_take, Nat.min_eq_left hm]
    rw [this, List.take_append_drop]
  have h0 : cntC c (r.take lo) = 0 := by
    have := congrArg (cntC c) hsplit
    rw [cntC_append, cntC_append] at this
    omega
  have hall : ∀ i, i < (seg r lo hi).length → (seg r lo hi)[i]? = some c := by
    intro i hi'
    rw [List.getElem?_eq_getElem hi']
    have hmem : ∀ x ∈ seg r lo hi, x = c := by
      intro x hx
      rw [h] at hx
      simpa using (List.mem_filter.1 hx).2
    rw [hmem _ (List.getElem_mem hi')]
  have hsl : (seg r lo hi).length = hi - lo := seg_length r lo hi (by omega)
  have htl : (r.take lo).length = lo := by simp; omega
  constructor
  · conv => lhs; rw [hsplit]
    rw [List.getElem?_append_right (by omega), htl, List.getElem?_append_left (by omega), show lo + j - lo = j by omega]
    exact hall j (by omega)
  · have : r.take (lo + j) = r.take lo ++ (seg r lo hi).take j := by
      conv => lhs; rw [hsplit]
      rw [List.take_append, List.take_of_length_le (by omega), htl, show lo + j - lo = j by omega, List.take_append_of_le_length (by omega)]
    rw [this, cntC_append, h0, Nat.zero_add]
    have hrep : (seg r lo hi).take j = List.replicate j c := by
      refine List.ext_getElem? fun i => ?_
      rw [List.getElem?_take, List.getElem?_replicate]
      split
      · exact hall i (by omega)
      · rfl
    rw [hrep]
    unfold cntC
    simp

theorem rowK_zero (l : List Nat) : rowK l 0 = l := rfl
theorem rowK_succ (l : List Nat) (k : Nat) : rowK l (k + 1) = lowR (rowK l k) k ++ highR (rowK l k) k := rfl
theorem placeK_zero (l : List Nat) (c i : Nat) : placeK l c 0 i = i := rfl
theorem placeK_succ (l : List Nat) (c k i : Nat) : placeK l c (k + 1) i = downK l k (wbit c k) (placeK l c k i) := rfl
theorem downK_true (l : List Nat) (k i : Nat) : downK l k true i = zsK l k + onesAt (bitsK l k) i := rfl
theorem downK_false (l : List Nat) (k i : Nat) : downK l k false i = zerosAt (bitsK l k) i := rfl
theorem lowR_snoc (r : List Nat) (k x : Nat) : lowR (r ++ [x]) k = if wbit x k then lowR r k else lowR r k ++ [x] := by
  unfold lowR; rw [List.filter_append]; cases h : wbit x k <;> simp [h]
theorem highR_snoc (r : List Nat) (k x : Nat) : highR (r ++ [x]) k = if wbit x k then highR r k ++ [x] else highR r k := by
  unfold highR; rw [List.filter_append]; cases h : wbit x k <;> simp [h]
theorem zsK_eq (l : List Nat) (k : Nat) : zsK l k = (lowR (rowK l k) k).length := rfl
theorem bitsK_eq (l : List Nat) (k : Nat) : bitsK l k = (rowK l k).map fun c => wbit c k := rfl
theorem lowR_nil (k : Nat) : lowR [] k = [] := rfl
theorem highR_nil (k : Nat) : highR [] k = [] := rfl
theorem rowK_mem (l : List Nat) (x : Nat) : ∀ k, x ∈ rowK l k → x ∈ l
  | 0, h => h
  | k + 1, h => by
    rw [rowK] at h
    rcases List.mem_append.1 h with h | h
    · exact rowK_mem l x k (List.mem_filter.1 h).1
    · exact rowK_mem l x k (List.mem_filter.1 h).1
attribute [irreducible] wbit lowR highR rowK bitsK zsK cntC downK placeK lessTo agree
end Go.Proofs.Ytekpjfbhhfcjnaa
