/-
  The walk of versions.order.
-/
import Derived.Test.YtficjpfhakggmaaVer
namespace Go.Proofs.Ytficjpfhakggmaa
open Go.RowKit
set_option maxHeartbeats 1000000 in
theorem order_any (k t v k' t' v' : Int) (g g' : Bool) (w : World) :
    Calls Try.prog 87 #[.agg #[.int .i64 k, .int .i64 t, .int .i64 v, .bool g], .agg #[.int .i64 k', .int .i64 t', .int .i64 v', .bool g']] w
      fun e w' => e = .returned (.int .i64 (ordI k t k' t')) ∧ Below w.heap.size w w' := by
  go_enter Try.func87, Try.ntmps87
  go_wp2_with fail
  go_region_held3 (fun w' => w'.cell? ⟨w.heap.size, 0, none⟩ = some (.int .i64 k) ∧ w'.cell? ⟨w.heap.size, 1, none⟩ = some (.int .i64 t) ∧ w'.cell? ⟨w.heap.size + 1, 0, none⟩ = some (.int .i64 k') ∧ w'.cell? ⟨w.heap.size + 1, 1, none⟩ = some (.int .i64 t')) (go_keep)
    (first | (go_at_call 101; refine (cmp_any _ _ _).mono ?_; rintro e w' ⟨rfl, rfl⟩) | (go_at_call 100; refine (or_any _ _ [cmpI k k', cmpI t t'] _ (by simp) (Rd.two (by simp) (by rw [cell_drew, cell_at _ _ _ _ _ (by simp)]; rfl) (by rw [cell_drew, cell_at _ _ _ _ _ (by simp)]; rfl))).mono ?_; rintro e w' ⟨rfl, rfl⟩))
  all_goals go_wp2
  all_goals go_ret
  all_goals refine ⟨rfl, ?_⟩
  exact (((((Below.refl _ _).alloc (Nat.le_refl _) _).alloc (by simp) _).alloc (by simp; omega) _)).drew
end Go.Proofs.Ytficjpfhakggmaa
