/- The contract of concordancelaw7.long: bits by a few of them, told over and over, in a slice of its own. -/
import Derived.Test.YtekpjfbhhfcjnaaNew
import Derived.Maps.AppendAt
namespace Go.Proofs.Ytekpjfbhhfcjnaa
open Go.RowKit Go.Proofs

theorem info4 : (Try.prog.info? 4).map (fun i => (i.zero, i.size, i.bytes)) = some (some (.bool false), 1, 1) := by kernel_rfl

/-- the i-th bit of a few, told over and over -/
def longAt (l : List Bool) (i : Nat) : Bool := (l[i % l.length]?).getD false != (i / 97 % 5 == 2)
/-- bits by a few of them, over and over -/
def longOf (l : List Bool) (n : Nat) : List Bool := if l.length = 0 then [] else (List.range n).map (longAt l)

theorem longAt_eq (l : List Bool) (k : Nat) : longAt l k = !((l[k % l.length]?).getD false == ((k : Int) / 97 % 5 == 2)) := by
  have e : ((k : Int) / 97 % 5 == 2) = (k / 97 % 5 == 2) := by
    rw [Bool.eq_iff_iff, beq_iff_eq, beq_iff_eq]; omega
  rw [e]; rfl
/-- what long leaves: these bits, in a slice of its own -/
def MadeLong (bs : List Bool) (w : World) (e : Ending) (w' : World) : Prop :=
  ∃ v, e = .returned v ∧ w'.ownsRow w.heap.size 4 1 v bs.length (bs.map Value.bool) ∧ Below w.heap.size w w'

theorem long_none (w : World) (p : Option Addr) (m cap : Nat) (n : Int) (h : n ≤ 0 ∨ m = 0) : Calls Try.prog 10 #[.slice p m cap, .int .i64 n] w (MadeLong [] w) := by
  by_cases hn : 0 < n
  · obtain rfl : m = 0 := by omega
    go_enter Try.func10, Try.ntmps10
    go_wp2
    refine wp_loop_rounds 1 ?_
    rw [rounds_succ]
    go_wp2
    go_ret
    exact ⟨_, rfl, World.ownsRow_nil _ _ _ _, Below.refl _ _⟩
  · go_enter Try.func10, Try.ntmps10
    go_wp2
    refine wp_loop_rounds 1 ?_
    rw [rounds_succ]
    go_wp2
    go_ret
    exact ⟨_, rfl, World.ownsRow_nil _ _ _ _, Below.refl _ _⟩

theorem long_some (w : World) (b off cap : Nat) (l : List Bool) (n : Nat) (hn : n ≤ 100000) (hl0 : 0 < l.length) (hlm : l.length ≤ 9223372036854775807) (hb : b < w.heap.size) (hc : ∀ i, i < l.length → w.cell? ⟨b, off + i, none⟩ = some (.bool ((l[i]?).getD false))) :
    Calls Try.prog 10 #[.slice (some ⟨b, off, none⟩) l.length cap, .int .i64 n] w (MadeLong ((List.range n).map (longAt l)) w) := by
  obtain ⟨i0, hi, hz0, hz1, hz2⟩ := info_parts info4
  go_enter Try.func10, Try.ntmps10
  go_wp2
  go_loopw [5, 6] (fun v i wr => ∃ k : Nat, k ≤ n ∧ i = .int .i64 k ∧ wr.ownsRow w.heap.size 4 1 v k ((List.range k).map (fun i => Value.bool (longAt l i))) ∧ Below w.heap.size w wr) (fun _ i _ => n - (intOf i).toNat)
  case atStart => exact ⟨0, Nat.zero_le _, rfl, World.ownsRow_nil _ _ _ _, Below.refl _ _⟩
  case round =>
    obtain ⟨k, hk, rfl, hown, hB⟩ := hrel
    by_cases hlt : k < n
    · have hm : k % l.length < l.length := Nat.mod_lt _ hl0
      have hcell := (hB.cell (p := ⟨b, off + k % l.length, none⟩) hb).trans (hc _ hm)
      have HL := Lib.hid (longAt_eq l k)
      generalize (l[k % l.length]?).getD false = x at *
      have hsz := hB.size
      have HB := Lib.hid hB
      clear hB hc
      go_wp2_with (first | (at_builtin; refine wpList_append_own _ rfl (.tmp 17) (.tmp 30) 22 rfl w.heap.size 4 i0 (.bool false) 1 1 Try.underlying22 hi hz0 hz1 hz2 rfl (by decide) _ _ _ rfl (hown.alloc _) ⟨wr.heap.size, 0, none⟩ 1 1 [.bool (!(x == ((k : Int) / 97 % 5 == 2)))] rfl rfl ?c1 ?c2 ?c3 ?c4 ?c5 ?_))
      case c1 => exact cell_one_new _ _ _
      case c2 => intro u hu; simp at hu; subst hu; rfl
      case c3 => unfold maxLen; omega
      case c4 => omega
      case c5 => simp; omega
      · intro v' w1 hown' hgrow _
        have hB1 := ((HB.out.alloc hsz (.cells #[.bool (!(x == ((k : Int) / 97 % 5 == 2)))] 4)).grown hgrow (by simp; omega) (fun k hk => (hown.lt k hk).1))
        rw [← HL.out] at hown'
        have HO := Lib.hid hown'
        clear hown' hgrow hown
        go_wp2
        go_roundw
        case rel =>
          refine ⟨k + 1, by omega, by go_num, ?_, hB1⟩
          rw [List.range_succ, List.map_append]
          exact HO.out
        case measure => simp [intOf]; omega
    · go_wp2
      go_ret
      obtain rfl : k = n := by omega
      exact ⟨_, rfl, by rw [List.map_map]; simp only [List.length_map, List.length_range]; exact hown, hB⟩

theorem long_any (w : World) (p : Option Addr) (cap : Nat) (l : List Bool) (n : Nat) (hn : n ≤ 100000) (hlm : l.length ≤ 9223372036854775807) (hc : BoolsAt w p l) :
    Calls Try.prog 10 #[.slice p l.length cap, .int .i64 n] w (MadeLong (longOf l n) w) := by
  by_cases hl : l.length = 0
  · have e : longOf l n = [] := by unfold longOf; rw [if_pos hl]
    rw [e]
    exact long_none w p _ cap n (.inr hl)
  · have e : longOf l n = (List.range n).map (longAt l) := by unfold longOf; rw [if_neg hl]
    rw [e]
    rcases hc with rfl | ⟨b, off, rfl, hb, hc⟩
    · exact absurd rfl hl
    · exact long_some w b off cap l n hn (by omega) hlm hb hc

/-- an own row of bools reads as a slice of bools -/
theorem bools_of_owns {w : World} {base : Nat} {v : Value} {bs : List Bool} (h : w.ownsRow base 4 1 v bs.length (bs.map Value.bool)) : ∃ p cap, v = .slice p bs.length cap ∧ BoolsAt w p bs := by
  rcases h.2 with ⟨rfl, h0⟩ | ⟨g, cap, cur, rfl, hg, hh, hn, hcap, hsz, htake⟩
  · have : bs = [] := List.length_eq_zero_iff.1 h0
    subst this
    exact ⟨none, 0, rfl, .inl rfl⟩
  · refine ⟨_, cap, rfl, .inr ⟨g, 0, rfl, ?_, fun i hi => ?_⟩⟩
    · exact (Array.getElem?_eq_some_iff.1 hh).1
    · have := h.cells (g := g) rfl i (.bool bs[i]) (by simp [hi])
      rw [show ((⟨g, 0, none⟩ : Addr).add i) = ⟨g, 0 + i, none⟩ from by cases i <;> simp [Addr.add]] at this
      rw [this]; simp [hi]
end Go.Proofs.Ytekpjfbhhfcjnaa
