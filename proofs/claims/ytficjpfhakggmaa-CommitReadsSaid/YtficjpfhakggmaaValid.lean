/-
  The walk of versions.Valid.
-/
import Derived.Test.YtficjpfhakggmaaOrd
namespace Go.Proofs.Ytficjpfhakggmaa
open Go.RowKit
set_option maxHeartbeats 1000000 in
theorem valid_any (A : Option Addr) (c : Nat) (l : List Ver) (w : World) (hn : l.length ≤ 9223372036854775807) (h : VS w A l) :
    Calls Try.prog 54 #[.slice A l.length c] w fun e w' => e = .returned (.bool (validB l)) ∧ Below w.heap.size w w' := by
  go_enter Try.func54, Try.ntmps54
  go_wp2
  go_loopw [2, 3, 4, 7] (fun u2 u3 u4 i wr => ∃ k : Nat, k ≤ l.length ∧ i = .int .i64 k ∧ u2 = .bool false ∧ (∀ j, j < k → okAt l j = true) ∧ Below w.heap.size w wr) (fun _ _ _ i _ => l.length - (intOf i).toNat)
  case atStart => exact ⟨0, Nat.zero_le _, rfl, rfl, fun j hj => by omega, Below.refl _ _⟩
  case round =>
    obtain ⟨k, hk, rfl, rfl, hall, hb⟩ := hrel
    have HA := hide hall
    clear hall
    by_cases hlt : k < l.length
    · have hr := h.below hb (Nat.le_refl _)
      obtain ⟨b, o, rfl, hbl, hc⟩ := hr.at_ hlt
      have c0 := hc k hlt
      have HC := hide hc
      unfold VAt at c0
      clear hc
      go_wp2_with fail
      generalize hW : World.alloc wr _ = W
      have hbW : Below w.heap.size w W := hW ▸ hb.alloc hb.size _
      have hbW' : Below wr.heap.size wr W := hW ▸ (Below.refl _ _).alloc (Nat.le_refl _) _
      have n0 := (VAt.new (v := l[k]) hW).fut (Nat.lt_succ_self wr.heap.size)
      have HS := hide (show W.heap.size = wr.heap.size + 1 by rw [← hW]; simp)
      unfold VAt at n0
      clear hW c0
      have HO := hide (okAt_eq hlt)
      have hi1 : (k : Int) < 9223372036854775807 := by omega
      cases hg : wfB l[k]
      · refine wp_region_fut (wr.heap.size + 1) (by kernel_rfl) (by kernel_rfl) ?_
        repeat (go_big_quiet_step ((first | (go_at_call 86; exact Fut.call (Nat.le_of_eq HS.out.symm) (wf_any _ _ _ _ _)))))
        refine wpQuiet_nil ?_
        rintro _ ⟨⟨w1, hb1⟩, rfl⟩
        go_wp2
        go_ret
        exact ⟨by rw [validB_no hlt (by rw [HO.out, hg]; rfl)]; rfl, hbW.trans (hb1.mono (by have := hb.size; omega))⟩
      · by_cases h0 : k = 0
        · have d0 : decide (0 < k) = false := by simp; omega
          have HO := hide (show okAt l k = true by rw [HO.out, hg, show (k == 0) = true by simp [h0]]; rfl)
          have H0 := hide h0
          clear h0
          refine wp_region_fut (wr.heap.size + 1) (by kernel_rfl) (by kernel_rfl) ?_
          repeat (go_big_quiet_step ((first | (go_at_call 86; exact Fut.call (Nat.le_of_eq HS.out.symm) (wf_any _ _ _ _ _)))))
          refine wpQuiet_nil ?_
          rintro _ ⟨⟨w1, hb1⟩, rfl⟩
          go_wp2
          go_roundw
          case rel => exact ⟨k + 1, by omega, by go_num, rfl, fun j hj => (by rcases Nat.lt_succ_iff_lt_or_eq.1 hj with hj | rfl; exact HA.out j hj; exact HO.out), hbW.trans (hb1.mono (by have := hb.size; omega))⟩
          case measure => simp [intOf]; omega
        · have d0 : decide (0 < k) = true := by simp; omega
          have hlt1 : (k : Int) - 1 < (l.length : Int) := by omega
          have hnn : (0 : Int) ≤ (k : Int) - 1 := by omega
          have m0 := ((HC.out (k - 1) (by omega)).below hbW' hbl).fut (Nat.lt_succ_of_lt hbl)
          unfold VAt at m0
          have hok : okAt l k = decide (ordI l[k - 1].key l[k - 1].ts l[k].key l[k].ts < 0) := by rw [HO.out, hg, show (k == 0) = false by simp [h0]]; rfl
          by_cases ho : ordI l[k - 1].key l[k - 1].ts l[k].key l[k].ts < 0
          all_goals
            have HK := hide hok
            first
              | have h1 : decide (0 ≤ ordI l[k - 1].key l[k - 1].ts l[k].key l[k].ts) = true := decide_eq_true (by omega)
              | have h1 : decide (0 ≤ ordI l[k - 1].key l[k - 1].ts l[k].key l[k].ts) = false := decide_eq_false (by omega)
            have HN := hide ho
            clear hok ho
            refine wp_region_fut (wr.heap.size + 1) (by kernel_rfl) (by kernel_rfl) ?_
            repeat (go_big_quiet_step ((first | (go_at_call 86; exact Fut.call (Nat.le_of_eq HS.out.symm) (wf_any _ _ _ _ _)) | (go_at_call 87; exact Fut.call (Nat.le_of_eq HS.out.symm) (order_any _ _ _ _ _ _ _ _ _)))))
            refine wpQuiet_nil ?_
            rintro _ ⟨⟨w1, hb1⟩, rfl⟩
            go_wp2
          · go_roundw
            case rel => exact ⟨k + 1, by omega, by go_num, rfl, fun j hj => (by rcases Nat.lt_succ_iff_lt_or_eq.1 hj with hj | rfl; exact HA.out j hj; exact HK.out.trans (decide_eq_true HN.out)), hbW.trans (hb1.mono (by have := hb.size; omega))⟩
            case measure => simp [intOf]; omega
          · go_ret
            exact ⟨by rw [validB_no hlt (HK.out.trans (decide_eq_false (by have := HN.out; omega)))]; rfl, hbW.trans (hb1.mono (by have := hb.size; omega))⟩
    · go_wp2
      go_ret
      exact ⟨by rw [validB_all (fun j hj => HA.out j (by omega))]; simp; omega, hb⟩
end Go.Proofs.Ytficjpfhakggmaa
