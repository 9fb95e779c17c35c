/-
  Walks of the small functions of package versions: within, isKey, isStamp, wellFormed, order, cmp.Compare, cmp.Or.
-/
import Derived.Test.YtficjpfhakggmaaRows
import Derived.Test.YtficjpfhakggmaaPl33
namespace Go.Proofs.Ytficjpfhakggmaa
open Go.RowKit

theorem fieldV0 (a b c : Int) (d : Bool) (w : World) : (Instr.field 44 (.agg #[.int .i64 a, .int .i64 b, .int .i64 c, .bool d]) 0).run Try.prog w = .ok (.int .i64 a) w := by kernel_rfl
theorem fieldV1 (a b c : Int) (d : Bool) (w : World) : (Instr.field 44 (.agg #[.int .i64 a, .int .i64 b, .int .i64 c, .bool d]) 1).run Try.prog w = .ok (.int .i64 b) w := by kernel_rfl
theorem fieldV2 (a b c : Int) (d : Bool) (w : World) : (Instr.field 44 (.agg #[.int .i64 a, .int .i64 b, .int .i64 c, .bool d]) 2).run Try.prog w = .ok (.int .i64 c) w := by kernel_rfl
theorem fieldV3 (a b c : Int) (d : Bool) (w : World) : (Instr.field 44 (.agg #[.int .i64 a, .int .i64 b, .int .i64 c, .bool d]) 3).run Try.prog w = .ok (.bool d) w := by kernel_rfl
attribute [go_sem] fieldV0 fieldV1 fieldV2 fieldV3
theorem within_any (a b c : Int) (w : World) :
    Calls Try.prog 96 #[.int .i64 a, .int .i64 b, .int .i64 c] w fun e w' => e = .returned (.bool (decide (b ≤ a) && decide (a ≤ c))) ∧ w = w' := by
  go_enter Try.func96, Try.ntmps96
  go_wp2
  all_goals go_ret
  all_goals exact ⟨by first | (simp_all; done) | (simp_all; omega), rfl⟩
theorem isKey_any (a : Int) (w : World) :
    Calls Try.prog 65 #[.int .i64 a] w fun e w' => e = .returned (.bool (decide (1 ≤ a) && decide (a ≤ 1000))) ∧ w = w' := by
  go_enter Try.func65, Try.ntmps65
  go_wp2_with (go_at_call 96; refine (within_any _ _ _ _).mono ?_; rintro e w' ⟨rfl, rfl⟩)
  go_ret
  exact ⟨rfl, rfl⟩
theorem isStamp_any (a : Int) (w : World) :
    Calls Try.prog 66 #[.int .i64 a] w fun e w' => e = .returned (.bool (decide (1 ≤ a) && decide (a ≤ 3000000000000000))) ∧ w = w' := by
  go_enter Try.func66, Try.ntmps66
  go_wp2_with (go_at_call 96; refine (within_any _ _ _ _).mono ?_; rintro e w' ⟨rfl, rfl⟩)
  go_ret
  exact ⟨rfl, rfl⟩
theorem wf_any (k t v : Int) (g : Bool) (w : World) :
    Calls Try.prog 86 #[.agg #[.int .i64 k, .int .i64 t, .int .i64 v, .bool g]] w fun e w' => e = .returned (.bool (wfB ⟨k, t, v, g⟩)) ∧ Below w.heap.size w w' := by
  go_enter Try.func86, Try.ntmps86
  go_wp2_with (first | (go_at_call 65; refine (isKey_any _ _).mono ?_; rintro e w' ⟨rfl, rfl⟩) | (go_at_call 66; refine (isStamp_any _ _).mono ?_; rintro e w' ⟨rfl, rfl⟩) | (go_at_call 96; refine (within_any _ _ _ _).mono ?_; rintro e w' ⟨rfl, rfl⟩))
  all_goals go_ret
  all_goals exact ⟨by first | (simp_all [wfB]; done) | (simp_all [wfB]; omega), (Below.refl _ _).alloc (Nat.le_refl _) _⟩
theorem isNaN_any (a : Int) (w : World) :
    Calls Try.prog 106 #[.int .i64 a] w fun e w' => e = .returned (.bool false) ∧ w = w' := by
  go_enter Try.func106, Try.ntmps106
  go_wp2
  go_ret
  exact ⟨by simp, rfl⟩
theorem cmp_any (a b : Int) (w : World) :
    Calls Try.prog 101 #[.int .i64 a, .int .i64 b] w fun e w' => e = .returned (.int .i64 (cmpI a b)) ∧ w = w' := by
  go_enter Try.func101, Try.ntmps101
  go_wp2_with (go_at_call 106; refine (isNaN_any _ _).mono ?_; rintro e w' ⟨rfl, rfl⟩)
  all_goals go_ret
  all_goals refine ⟨?_, rfl⟩
  all_goals unfold cmpI
  all_goals (repeat (first | rfl | (rw [if_pos (by omega)]) | (rw [if_neg (by omega)])))
theorem orL_drop (l : List Int) : ∀ k, k ≤ l.length → (∀ i, i < k → l.getD i 0 = 0) → orL l = orL (l.drop k) := by
  induction l with
  | nil => intro k _ _; simp
  | cons x l ih =>
    intro k hk h
    cases k with
    | zero => rfl
    | succ k =>
      have h0 : x = 0 := by simpa using h 0 (by omega)
      rw [orL, if_pos h0, List.drop_succ_cons]
      exact ih k (by simpa using hk) (fun i hi => by simpa using h (i + 1) (by omega))
theorem or_any (A : Option Addr) (c : Nat) (l : List Int) (w : World) (hm : l.length ≤ 9223372036854775807) (h : Rd w A (l.map (Value.int .i64))) :
    Calls Try.prog 100 #[.slice A l.length c] w fun e w' => e = .returned (.int .i64 (orL l)) ∧ w = w' := by
  go_enter Try.func100, Try.ntmps100
  go_wp2
  go_loop [8] (fun i => ∃ k : Nat, k ≤ l.length ∧ i = .int .i64 k ∧ ∀ j, j < k → l.getD j 0 = 0) (fun i => l.length - (intOf i).toNat)
  case atStart => exact ⟨0, Nat.zero_le _, rfl, fun j hj => by omega⟩
  case round =>
    obtain ⟨k, hk, rfl, hz⟩ := hrel
    by_cases hlt : k < l.length
    · have hx : (l.map (Value.int .i64))[k]? = some (.int .i64 l[k]) := by simp [hlt]
      obtain ⟨b, o, rfl, hb, hc⟩ := h (by intro e; simp at e; subst e; simp at hlt)
      have hc0 := hc k _ hx
      have HZ := hide hz
      clear hz hx hc h
      go_wp2
      · go_ret
        have hne : l[k] ≠ 0 := by have : (l[k] != 0) = true := by assumption
                                  simpa using this
        refine ⟨?_, rfl⟩
        show Ending.returned (.int .i64 l[k]) = _
        rw [orL_drop l k hk HZ.out, List.drop_eq_getElem_cons hlt, orL, if_neg hne]
      · go_round
        case rel =>
          have h0 : l[k] = 0 := by have : (l[k] != 0) = false := by assumption
                                   simpa using this
          refine ⟨k + 1, by omega, by go_num, fun j hj => ?_⟩
          by_cases hjk : j = k
          · subst hjk; simp [h0, hlt]
          · exact HZ.out j (by omega)
        case measure => simp [intOf]; omega
    · go_wp2
      go_ret
      refine ⟨?_, rfl⟩
      show Ending.returned (.int .i64 0) = _
      rw [orL_drop l l.length (Nat.le_refl _) (fun i hi => hz i (by omega)), List.drop_length, orL]
end Go.Proofs.Ytficjpfhakggmaa
