/-
  The walks of the reference implementation of layer 33: Key, Stamp, Version, before, Valid, newest, Same.
-/
import Derived.Test.YtficjpfhakggmaaEqV
import Derived.Test.YtficjpfhakggmaaPl33r
namespace Go.Proofs.Ytficjpfhakggmaa
open Go.RowKit
theorem rKey_any (a : Int) (w : World) : Calls Try.prog 62 #[.int .i64 a] w fun e w' => e = .returned (.bool (keyB a)) ∧ w = w' := by
  go_enter Try.func62, Try.ntmps62
  go_wp2
  all_goals go_ret
  all_goals exact ⟨by first | (simp_all [keyB]; done) | (simp_all [keyB]; omega), rfl⟩
theorem rStamp_any (a : Int) (w : World) : Calls Try.prog 63 #[.int .i64 a] w fun e w' => e = .returned (.bool (stampB a)) ∧ w = w' := by
  go_enter Try.func63, Try.ntmps63
  go_wp2
  all_goals go_ret
  all_goals exact ⟨by first | (simp_all [stampB]; done) | (simp_all [stampB]; omega), rfl⟩
theorem wfB_eq (v : Ver) : wfB v = (keyB v.key && stampB v.ts && decide (0 ≤ v.value) && decide (v.value ≤ 1000000) && (!v.gone || v.value == 0)) := by
  unfold wfB keyB stampB
  simp only [Bool.and_assoc]
set_option maxHeartbeats 1000000 in
theorem rVersion_any (k t v : Int) (g : Bool) (w : World) :
    Calls Try.prog 88 #[.agg #[.int .i64 k, .int .i64 t, .int .i64 v, .bool g]] w fun e w' => e = .returned (.bool (wfB ⟨k, t, v, g⟩)) ∧ Below w.heap.size w w' := by
  rw [wfB_eq]
  cases hk : keyB k
  · go_enter Try.func88, Try.ntmps88
    go_wp2_with (go_at_call 62; refine (rKey_any _ _).mono ?_; rw [hk]; rintro e w' ⟨rfl, rfl⟩)
    all_goals go_ret
    all_goals exact ⟨by simp, (Below.refl _ _).alloc (Nat.le_refl _) _⟩
  · cases ht : stampB t
    · go_enter Try.func88, Try.ntmps88
      go_wp2_with (first | (go_at_call 62; refine (rKey_any _ _).mono ?_; rw [hk]; rintro e w' ⟨rfl, rfl⟩) | (go_at_call 63; refine (rStamp_any _ _).mono ?_; rw [ht]; rintro e w' ⟨rfl, rfl⟩))
      all_goals go_ret
      all_goals exact ⟨by simp, (Below.refl _ _).alloc (Nat.le_refl _) _⟩
    · go_enter Try.func88, Try.ntmps88
      go_wp2_with (first | (go_at_call 62; refine (rKey_any _ _).mono ?_; rw [hk]; rintro e w' ⟨rfl, rfl⟩) | (go_at_call 63; refine (rStamp_any _ _).mono ?_; rw [ht]; rintro e w' ⟨rfl, rfl⟩))
      all_goals go_ret
      all_goals exact ⟨by first | (simp_all; done) | (simp_all; omega), (Below.refl _ _).alloc (Nat.le_refl _) _⟩
/-- before, as a Boolean -/
def ltB (k t k' t' : Int) : Bool := decide (k < k') || (k == k' && decide (t < t'))
set_option maxHeartbeats 1000000 in
theorem rBefore_any (k t v k' t' v' : Int) (g g' : Bool) (w : World) :
    Calls Try.prog 89 #[.agg #[.int .i64 k, .int .i64 t, .int .i64 v, .bool g], .agg #[.int .i64 k', .int .i64 t', .int .i64 v', .bool g']] w
      fun e w' => e = .returned (.bool (ltB k t k' t')) ∧ Below w.heap.size w w' := by
  go_enter Try.func89, Try.ntmps89
  go_wp2
  all_goals go_ret
  all_goals exact ⟨by first | (simp_all [ltB]; done) | (simp_all [ltB]; omega), ((Below.refl _ _).alloc (Nat.le_refl _) _).alloc (by simp) _⟩
theorem ltB_iff (a b : Ver) : ltB a.key a.ts b.key b.ts = decide (ordV a b < 0) := by
  have := ordI_lt (k := a.key) (t := a.ts) (k' := b.key) (t' := b.ts)
  rw [Bool.eq_iff_iff, decide_eq_true_eq]
  show _ ↔ ordI _ _ _ _ < 0
  rw [this]
  simp [ltB]
end Go.Proofs.Ytficjpfhakggmaa
