/-
  The walks of the two methods of tree.walk.
-/
import Derived.Test.YtijnjgjpmgmifaaDoorTa
import Derived.Test.YtijnjgjpmgmifaaDoorRevV0
import Derived.Laws.BitsLemmas
import Derived.Laws.Bits64
namespace Go.Proofs.YtijnjgjpmgmifaaDoor
open Go.RowKit
theorem wraps63 (n : Int) (h₀ : 0 ≤ n) (h₁ : n < 2 ^ 63) : IntKind.u64.wrap n = n := by rw [IntKind.wrap_u64]; omega
theorem and1 (a : Nat) (h : a < 10000) : bits .and .u64 (a : Int) 1 = ((a % 2 : Nat) : Int) := by
  have := (bits_nat .u64 63 (by decide) wraps63 a 1 (by omega) (by decide)).1
  rw [Nat.and_one_is_mod] at this
  exact this
/-- the two indexes, in a block of their own -/
abbrev W2 (w : World) (g a b : Nat) : Prop := Blk w g 55 #[.int .u64 a, .int .u64 b]
theorem isR_odd {a b : Nat} (h : a % 2 = 1) : isR a b = true := isR_iff.2 (.inl h)
set_option maxHeartbeats 2000000 in
theorem right_any (g a b : Nat) (w : World) (h : W2 w g a b) (ha : a < 10000) : Calls Tryd.prog 36 #[.pointer (some ⟨g, 0, none⟩)] w fun e w' => e = .returned (.bool (isR a b)) ∧ Below w.heap.size w w' := by
  have c0 : w.cell? ⟨g, 0, none⟩ = some (.int .u64 a) := h.cell 0
  have c1 : w.cell? ⟨g, 1, none⟩ = some (.int .u64 b) := h.cell 1
  have hl := h.lt
  have n0 := fun x : Fut w.heap.size w => (x.cell g 0 hl).trans c0
  have n1 := fun x : Fut w.heap.size w => (x.cell g 1 hl).trans c1
  have hbit := and1 a ha
  by_cases ho : a % 2 = 1
  · rw [isR_odd ho]
    rw [ho] at hbit
    clear ho
    go_enter Tryd.func36, Tryd.ntmps36
    go_wp2_with fail
    refine wp_region_fut w.heap.size (by kernel_rfl) (by kernel_rfl) ?_
    repeat (go_big_quiet_step ((first | fail)))
    refine wpQuiet_nil ?_
    intro w4 hq'; have hb4 := Fut.of hq'; clear hq'
    go_wp2
    go_ret
    exact ⟨rfl, hb4⟩
  · rw [show a % 2 = 0 by omega] at hbit
    have hr : isR a b = ((a : Int) == (b : Int)) := by
      unfold isR
      rw [Bool.eq_iff_iff]
      simp
      omega
    rw [hr]
    clear ho hr
    cases hq : ((a : Int) == (b : Int))
    all_goals
      go_enter Tryd.func36, Tryd.ntmps36
      go_wp2_with fail
      refine wp_region_fut w.heap.size (by kernel_rfl) (by kernel_rfl) ?_
      repeat (go_big_quiet_step ((first | fail)))
      refine wpQuiet_nil ?_
      intro w4 hq'; have hb4 := Fut.of hq'; clear hq'
      go_wp2
      go_ret
      exact ⟨rfl, hb4⟩
/-- the index that a walk holds -/
def cellN (w : World) (g : Nat) : Nat := match w.cell? ⟨g, 0, none⟩ with | some (.int _ n) => n.toNat | _ => 0
theorem cellN_eq {w : World} {g a b : Nat} (h : W2 w g a b) : cellN w g = a := by
  have c0 : w.cell? ⟨g, 0, none⟩ = some (.int .u64 a) := h.cell 0
  unfold cellN
  rw [c0]
  rfl
theorem w2_half {w : World} {g a b : Nat} (h : W2 w g a b) : W2 ((w.setCell ⟨g, 0, none⟩ (.int .u64 ((a : Int) / 2))).setCell ⟨g, 1, none⟩ (.int .u64 ((b : Int) / 2))).drew g (a / 2) (b / 2) := by
  have := (Blk.set_ (Blk.set_ h 0 (.int .u64 ((a : Int) / 2))) 1 (.int .u64 ((b : Int) / 2))).drew
  have e1 : ((a / 2 : Nat) : Int) = (a : Int) / 2 := by omega
  have e2 : ((b / 2 : Nat) : Int) = (b : Int) / 2 := by omega
  unfold W2
  rw [e1, e2]
  exact this
set_option maxHeartbeats 2000000 in
theorem up_any (g a b : Nat) (lonely : Bool) (w : World) (h : W2 w g a b) (ha : a < 10000) : Calls Tryd.prog 37 #[.pointer (some ⟨g, 0, none⟩), .bool lonely] w fun e w' => (∃ v, e = .returned v) ∧ W2 w' g (if lonely = true then (upT a b).1 else a / 2) (if lonely = true then (upT a b).2 else b / 2) ∧ w.grownBy w' (some g) := by
  go_enter Tryd.func37, Tryd.ntmps37
  go_wp2
  go_loopw [] (fun wr => ∃ a' b' : Nat, W2 wr g a' b' ∧ a' < 10000 ∧ (lonely = false → a' = a ∧ b' = b) ∧ (lonely = true → upT a' b' = upT a b) ∧ w.grownBy wr (some g)) (fun wr => cellN wr g)
  case atStart => exact ⟨a, b, h, ha, fun _ => ⟨rfl, rfl⟩, fun _ => rfl, grown_self _ _⟩
  case round =>
    obtain ⟨a', b', hw, ha', h1, h2, hg⟩ := hrel
    have c0 : wr.cell? ⟨g, 0, none⟩ = some (.int .u64 a') := hw.cell 0
    have c1 : wr.cell? ⟨g, 1, none⟩ = some (.int .u64 b') := hw.cell 1
    have f0 := hw.frozen 0
    have f1 := hw.frozen 1
    have hbit := and1 a' ha'
    have HW := hide hw
    have HG := hide hg
    have hfin : W2 ((wr.setCell ⟨g, 0, none⟩ (.int .u64 ((a' : Int) / 2))).setCell ⟨g, 1, none⟩ (.int .u64 ((b' : Int) / 2))).drew g (a' / 2) (b' / 2) ∧ w.grownBy ((wr.setCell ⟨g, 0, none⟩ (.int .u64 ((a' : Int) / 2))).setCell ⟨g, 1, none⟩ (.int .u64 ((b' : Int) / 2))).drew (some g) := ⟨w2_half hw, grown_drew (grown_set (grown_set hg _ _) _ _)⟩
    have HF := hide hfin
    clear hw hg hfin
    cases lonely
    · obtain ⟨rfl, rfl⟩ := h1 rfl
      clear h1 h2
      go_wp2_with fail
      go_region
      all_goals
        go_wp2
        go_end0
        exact ⟨⟨_, rfl⟩, HF.out⟩
    · have hup := h2 rfl
      have HU := hide hup
      clear h1 h2 hup
      by_cases ho : a' % 2 = 1
      · rw [ho] at hbit
        have HR := hide (upT_odd (b := b') ho)
        clear ho
        go_wp2_with fail
        go_region
        all_goals
          go_wp2
          go_end0
          exact ⟨⟨_, rfl⟩, by rw [← HU.out, HR.out]; exact HF.out⟩
      · rw [show a' % 2 = 0 by omega] at hbit
        by_cases hz : a' = 0
        · subst hz
          have HR := hide (show upT 0 b' = (0 / 2, b' / 2) by rw [upT, dif_neg (by omega)])
          clear ho
          go_wp2_with fail
          go_region
          all_goals
            go_wp2
            go_end0
            exact ⟨⟨_, rfl⟩, by rw [← HU.out, HR.out]; exact HF.out⟩
        · have qz : ((a' : Int) != 0) = true := by simp; omega
          have HR := hide (upT_even (b := b') (show a' % 2 = 0 by omega) hz)
          have HM := hide (cellN_eq HW.out)
          have HM2 := hide (cellN_eq HF.out.1)
          have hlt : a' / 2 < a' := by omega
          have HZ := hide hz
          clear ho hz
          go_wp2_with fail
          go_region
          all_goals
            go_wp2
            go_roundw
            case rel => exact ⟨a' / 2, b' / 2, HF.out.1, by omega, fun h => (by cases h), fun _ => (by rw [← HU.out, HR.out]), HF.out.2⟩
            case measure => rw [HM.out, HM2.out]; exact hlt
end Go.Proofs.YtijnjgjpmgmifaaDoor
