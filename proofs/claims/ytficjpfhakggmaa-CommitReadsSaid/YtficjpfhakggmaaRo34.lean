/-
  The walks of the reference implementation of layer 34: reads, writes, Tx, greatest, versions.
-/
import Derived.Test.YtficjpfhakggmaaVl34
import Derived.Test.YtficjpfhakggmaaRef33b
namespace Go.Proofs.Ytficjpfhakggmaa
open Go.RowKit
theorem keyB_btw (k : Int) : keyB k = btw k 1 1000 := rfl
set_option maxHeartbeats 8000000 in
set_option maxRecDepth 100000 in
theorem rReads_any (A : Option Addr) (c : Nat) (rd : List Sn) (w : World) (hr : rd.length ≤ 100) (h : RS Sn.cells w A rd) :
    Calls Try.prog 68 #[.slice A rd.length c] w fun e w' => e = .returned (.bool (readsB rd && decide (rd.length ≤ 8))) ∧ Below w.heap.size w w' := by
  have HR := hide h
  have RK := hide rKey_any
  clear h
  go_enter Try.func68, Try.ntmps68
  go_wp2_with fail
  go_loopw [3, 4] (fun i _ wr => ∃ k : Nat, k ≤ rd.length ∧ i = .int .i64 k ∧ (∀ j, j < k → rdAt rd j = true) ∧ Below w.heap.size w wr) (fun i _ _ => rd.length - (intOf i).toNat)
  case atStart => exact ⟨0, Nat.zero_le _, rfl, fun j hj => by omega, Below.refl _ _⟩
  case round =>
    obtain ⟨k, hk, rfl, hall, hb⟩ := hrel
    have HA := hide hall
    have HB := hide hb
    clear hall
    by_cases hlt : k < rd.length
    · obtain ⟨b, o, rfl, hbl, hc⟩ := SnS.at_ (HR.out.then_ hb) hlt
      have c0 := hc k hlt
      have n0 := c0.fut hbl
      have HC := hide hc
      have HO := hide (rdAt_b hlt)
      obtain ⟨s, hs⟩ : ∃ s, s = rd[k] := ⟨_, rfl⟩
      rw [← hs] at c0 n0 HO
      have hcase : (btw s.key 1 1000 = false ∧ rdAt rd k = false) ∨ (btw s.key 1 1000 = true ∧ (k = 0 ∨ k ≠ 0 ∧ ¬s.key ≤ (rd[k - 1]'(by omega)).key) ∧ (s.ts < 0 ∧ rdAt rd k = false ∨ ¬s.ts < 0 ∧ (3000000000000000 < s.ts ∧ rdAt rd k = false ∨ ¬3000000000000000 < s.ts ∧ rdAt rd k = true))) ∨ (btw s.key 1 1000 = true ∧ k ≠ 0 ∧ s.key ≤ (rd[k - 1]'(by omega)).key ∧ rdAt rd k = false) := by
        rw [HO.out]
        unfold btw
        by_cases h0 : k = 0 <;> by_cases h1 : s.key ≤ (rd[k - 1]'(by omega)).key <;> by_cases h2 : 1 ≤ s.key <;> by_cases h3 : s.key ≤ 1000 <;> by_cases h4 : 0 ≤ s.ts <;> by_cases h5 : s.ts ≤ 3000000000000000 <;> simp [h0, h1, h2, h3, h4, h5] <;> omega
      unfold SnAt at c0 n0
      have hi1 : (k : Int) < 9223372036854775807 := by omega
      clear hb
      have NO := hide fun (h : rdAt rd k = false) => (show (readsB rd && decide (rd.length ≤ 8)) = false by rw [show readsB rd = false from range_no hlt h]; rfl)
      rcases hcase with ⟨q1, hf⟩ | ⟨q1, hpos, hts⟩ | ⟨q1, h0, h1, hf⟩
      · have HF := hide (NO.out hf)
        clear hf hs
        go_wp2_with (go_at_call 62; refine (RK.out _ _).mono ?_; rw [keyB_btw s.key, q1]; rintro e w5 ⟨rfl, rfl⟩)
        refine wp_region_fut wr.heap.size (by kernel_rfl) (by kernel_rfl) ?_
        repeat (go_big_quiet_step ((first | fail)))
        refine wpQuiet_nil ?_
        rintro _ ⟨⟨w1, hb1⟩, rfl⟩
        go_wp2
        go_ret
        exact ⟨by rw [HF.out]; rfl, HB.out.trans (hb1.mono HB.out.size)⟩
      · rcases hpos with h0 | ⟨h0, h1⟩
        · have d0 : decide (0 < k) = false := by simp; omega
          have d1 : decide (0 < (k : Int)) = false := by simp; omega
          rcases hts with ⟨t1, hf⟩ | ⟨t1, ⟨t2, hf⟩ | ⟨t2, hf⟩⟩
          · have e1 : decide (s.ts < 0) = true := decide_eq_true t1
            have HF := hide (NO.out hf)
            clear hf hs t1 h0
            go_wp2_with (go_at_call 62; refine (RK.out _ _).mono ?_; rw [keyB_btw s.key, q1]; rintro e w5 ⟨rfl, rfl⟩)
            refine wp_region_fut wr.heap.size (by kernel_rfl) (by kernel_rfl) ?_
            repeat (go_big_quiet_step ((first | fail)))
            refine wpQuiet_nil ?_
            rintro _ ⟨⟨w1, hb1⟩, rfl⟩
            go_wp2
            go_ret
            exact ⟨by rw [HF.out]; rfl, HB.out.trans (hb1.mono HB.out.size)⟩
          · have e1 : decide (s.ts < 0) = false := decide_eq_false t1
            have e2 : decide (3000000000000000 < s.ts) = true := decide_eq_true t2
            have HF := hide (NO.out hf)
            clear hf hs t1 t2 h0
            go_wp2_with (go_at_call 62; refine (RK.out _ _).mono ?_; rw [keyB_btw s.key, q1]; rintro e w5 ⟨rfl, rfl⟩)
            refine wp_region_fut wr.heap.size (by kernel_rfl) (by kernel_rfl) ?_
            repeat (go_big_quiet_step ((first | fail)))
            refine wpQuiet_nil ?_
            rintro _ ⟨⟨w1, hb1⟩, rfl⟩
            go_wp2
            go_ret
            exact ⟨by rw [HF.out]; rfl, HB.out.trans (hb1.mono HB.out.size)⟩
          · have e1 : decide (s.ts < 0) = false := decide_eq_false t1
            have e2 : decide (3000000000000000 < s.ts) = false := decide_eq_false t2
            have HF := hide hf
            clear hf hs t1 t2 h0
            go_wp2_with (go_at_call 62; refine (RK.out _ _).mono ?_; rw [keyB_btw s.key, q1]; rintro e w5 ⟨rfl, rfl⟩)
            refine wp_region_fut wr.heap.size (by kernel_rfl) (by kernel_rfl) ?_
            repeat (go_big_quiet_step ((first | fail)))
            refine wpQuiet_nil ?_
            rintro _ ⟨⟨w1, hb1⟩, rfl⟩
            go_wp2
            go_roundw
            case rel => exact ⟨k + 1, by omega, by go_num, fun j hj => (by rcases Nat.lt_succ_iff_lt_or_eq.1 hj with hj | rfl; exact HA.out j hj; exact HF.out), HB.out.trans (hb1.mono HB.out.size)⟩
            case measure => simp [intOf]; omega
        · have d0 : decide (0 < k) = true := by simp; omega
          have d1 : decide (0 < (k : Int)) = true := by simp; omega
          have hlt1 : (k : Int) - 1 < (rd.length : Int) := by omega
          have hnn : (0 : Int) ≤ (k : Int) - 1 := by omega
          have m0 := (HC.out (k - 1) (by omega)).fut hbl
          unfold SnAt at m0
          have d2 : decide (s.key ≤ rd[k - 1].key) = false := decide_eq_false h1
          rcases hts with ⟨t1, hf⟩ | ⟨t1, ⟨t2, hf⟩ | ⟨t2, hf⟩⟩
          · have e1 : decide (s.ts < 0) = true := decide_eq_true t1
            have HF := hide (NO.out hf)
            clear hf hs t1 h0 h1
            go_wp2_with (go_at_call 62; refine (RK.out _ _).mono ?_; rw [keyB_btw s.key, q1]; rintro e w5 ⟨rfl, rfl⟩)
            refine wp_region_fut wr.heap.size (by kernel_rfl) (by kernel_rfl) ?_
            repeat (go_big_quiet_step ((first | fail)))
            refine wpQuiet_nil ?_
            rintro _ ⟨⟨w1, hb1⟩, rfl⟩
            go_wp2
            go_ret
            exact ⟨by rw [HF.out]; rfl, HB.out.trans (hb1.mono HB.out.size)⟩
          · have e1 : decide (s.ts < 0) = false := decide_eq_false t1
            have e2 : decide (3000000000000000 < s.ts) = true := decide_eq_true t2
            have HF := hide (NO.out hf)
            clear hf hs t1 t2 h0 h1
            go_wp2_with (go_at_call 62; refine (RK.out _ _).mono ?_; rw [keyB_btw s.key, q1]; rintro e w5 ⟨rfl, rfl⟩)
            refine wp_region_fut wr.heap.size (by kernel_rfl) (by kernel_rfl) ?_
            repeat (go_big_quiet_step ((first | fail)))
            refine wpQuiet_nil ?_
            rintro _ ⟨⟨w1, hb1⟩, rfl⟩
            go_wp2
            go_ret
            exact ⟨by rw [HF.out]; rfl, HB.out.trans (hb1.mono HB.out.size)⟩
          · have e1 : decide (s.ts < 0) = false := decide_eq_false t1
            have e2 : decide (3000000000000000 < s.ts) = false := decide_eq_false t2
            have HF := hide hf
            clear hf hs t1 t2 h0 h1
            go_wp2_with (go_at_call 62; refine (RK.out _ _).mono ?_; rw [keyB_btw s.key, q1]; rintro e w5 ⟨rfl, rfl⟩)
            refine wp_region_fut wr.heap.size (by kernel_rfl) (by kernel_rfl) ?_
            repeat (go_big_quiet_step ((first | fail)))
            refine wpQuiet_nil ?_
            rintro _ ⟨⟨w1, hb1⟩, rfl⟩
            go_wp2
            go_roundw
            case rel => exact ⟨k + 1, by omega, by go_num, fun j hj => (by rcases Nat.lt_succ_iff_lt_or_eq.1 hj with hj | rfl; exact HA.out j hj; exact HF.out), HB.out.trans (hb1.mono HB.out.size)⟩
            case measure => simp [intOf]; omega
      · have d0 : decide (0 < k) = true := by simp; omega
        have d1 : decide (0 < (k : Int)) = true := by simp; omega
        have hlt1 : (k : Int) - 1 < (rd.length : Int) := by omega
        have hnn : (0 : Int) ≤ (k : Int) - 1 := by omega
        have m0 := (HC.out (k - 1) (by omega)).fut hbl
        unfold SnAt at m0
        have d2 : decide (s.key ≤ rd[k - 1].key) = true := decide_eq_true h1
        have HF := hide (NO.out hf)
        clear hf hs h0 h1
        go_wp2_with (go_at_call 62; refine (RK.out _ _).mono ?_; rw [keyB_btw s.key, q1]; rintro e w5 ⟨rfl, rfl⟩)
        refine wp_region_fut wr.heap.size (by kernel_rfl) (by kernel_rfl) ?_
        repeat (go_big_quiet_step ((first | fail)))
        refine wpQuiet_nil ?_
        rintro _ ⟨⟨w1, hb1⟩, rfl⟩
        go_wp2
        go_ret
        exact ⟨by rw [HF.out]; rfl, HB.out.trans (hb1.mono HB.out.size)⟩
    · have HF := hide (show readsB rd = true from range_all fun j hj => HA.out j (by omega))
      have hcase : (decide ((rd.length : Int) ≤ 8) = false ∧ decide (rd.length ≤ 8) = false) ∨ (decide ((rd.length : Int) ≤ 8) = true ∧ decide (rd.length ≤ 8) = true) := by simp; omega
      clear hb
      rcases hcase with ⟨z1, z2⟩ | ⟨z1, z2⟩
      all_goals
        go_wp2
        go_ret
        exact ⟨by rw [HF.out, z2]; rfl, HB.out⟩
end Go.Proofs.Ytficjpfhakggmaa
