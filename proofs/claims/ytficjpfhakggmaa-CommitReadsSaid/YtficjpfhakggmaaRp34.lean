/-
  The walks of the reference implementation of layer 34: writes, Tx.
-/
import Derived.Test.YtficjpfhakggmaaRo34
namespace Go.Proofs.Ytficjpfhakggmaa
open Go.RowKit
set_option maxHeartbeats 8000000 in
set_option maxRecDepth 100000 in
theorem rWrites_any (A : Option Addr) (c : Nat) (rd : List Wr) (w : World) (hr : rd.length ≤ 100) (h : RS Wr.cells w A rd) :
    Calls Try.prog 69 #[.slice A rd.length c] w fun e w' => e = .returned (.bool (writesB rd && decide (rd.length ≤ 8))) ∧ Below w.heap.size w w' := by
  have HR := hide h
  have RK := hide rKey_any
  clear h
  go_enter Try.func69, Try.ntmps69
  go_wp2_with fail
  go_loopw [3, 4] (fun i _ wr => ∃ k : Nat, k ≤ rd.length ∧ i = .int .i64 k ∧ (∀ j, j < k → wrAt rd j = true) ∧ Below w.heap.size w wr) (fun i _ _ => rd.length - (intOf i).toNat)
  case atStart => exact ⟨0, Nat.zero_le _, rfl, fun j hj => by omega, Below.refl _ _⟩
  case round =>
    obtain ⟨k, hk, rfl, hall, hb⟩ := hrel
    have HA := hide hall
    have HB := hide hb
    clear hall
    by_cases hlt : k < rd.length
    · obtain ⟨b, o, rfl, hbl, hc⟩ := WrS.at_ (HR.out.then_ hb) hlt
      have c0 := hc k hlt
      have n0 := c0.fut hbl
      have HC := hide hc
      have HO := hide (wrAt_b hlt)
      obtain ⟨s, hs⟩ : ∃ s, s = rd[k] := ⟨_, rfl⟩
      rw [← hs] at c0 n0 HO
      have hcase : (btw s.key 1 1000 = false ∧ wrAt rd k = false) ∨ (btw s.key 1 1000 = true ∧ (k = 0 ∨ k ≠ 0 ∧ ¬s.key ≤ (rd[k - 1]'(by omega)).key) ∧ (s.value < 0 ∧ wrAt rd k = false ∨ ¬s.value < 0 ∧ (1000000 < s.value ∧ wrAt rd k = false ∨ ¬1000000 < s.value ∧ (s.gone = true ∧ (s.value != 0) = true ∧ wrAt rd k = false ∨ (s.gone = false ∨ s.gone = true ∧ (s.value != 0) = false) ∧ wrAt rd k = true)))) ∨ (btw s.key 1 1000 = true ∧ k ≠ 0 ∧ s.key ≤ (rd[k - 1]'(by omega)).key ∧ wrAt rd k = false) := by
        rw [HO.out]
        unfold btw
        by_cases h0 : k = 0 <;> by_cases h1 : s.key ≤ (rd[k - 1]'(by omega)).key <;> by_cases h2 : 1 ≤ s.key <;> by_cases h3 : s.key ≤ 1000 <;> by_cases h4 : 0 ≤ s.value <;> by_cases h5 : s.value ≤ 1000000 <;> cases hg : s.gone <;> by_cases h6 : s.value = 0 <;> simp [h0, h1, h2, h3, h4, h5, h6] <;> omega
      unfold WrAt at c0 n0
      have hi1 : (k : Int) < 9223372036854775807 := by omega
      clear hb
      have NO := hide fun (h : wrAt rd k = false) => (show (writesB rd && decide (rd.length ≤ 8)) = false by rw [show writesB rd = false from range_no hlt h]; rfl)
      rcases hcase with ⟨q1, hf⟩ | ⟨q1, hpos, hts⟩ | ⟨q1, h0, h1, hf⟩
      · have HF := hide (NO.out hf)
        clear hf hs
        go_wp2_with (go_at_call 62; refine (RK.out _ _).mono ?_; rw [keyB_btw s.key, q1]; rintro e w5 ⟨rfl, rfl⟩)
        refine wp_region_fut wr.heap.size (by kernel_rfl) (by kernel_rfl) ?_
        repeat (go_big_quiet_step ((first | fail)))
        refine wpQuiet_nil ?_
        rintro _ ⟨⟨w1, hb1⟩, rfl⟩
        go_wp2
        go_ret
        exact ⟨by rw [HF.out]; rfl, HB.out.trans (hb1.mono HB.out.size)⟩
      · rcases hpos with h0 | ⟨h0, h1⟩
        · have d0 : decide (0 < k) = false := by simp; omega
          have d1 : decide (0 < (k : Int)) = false := by simp; omega
          rcases hts with ⟨t1, hf⟩ | ⟨t1, ⟨t2, hf⟩ | ⟨t2, ⟨t3, t4, hf⟩ | ⟨t3 | ⟨t3, t4⟩, hf⟩⟩⟩
          · have e1 : decide (s.value < 0) = true := decide_eq_true t1
            have HF := hide (NO.out hf)
            clear hf hs t1 h0
            go_wp2_with (go_at_call 62; refine (RK.out _ _).mono ?_; rw [keyB_btw s.key, q1]; rintro e w5 ⟨rfl, rfl⟩)
            refine wp_region_fut wr.heap.size (by kernel_rfl) (by kernel_rfl) ?_
            repeat (go_big_quiet_step ((first | fail)))
            refine wpQuiet_nil ?_
            rintro _ ⟨⟨w1, hb1⟩, rfl⟩
            go_wp2
            go_ret
            exact ⟨by rw [HF.out]; rfl, HB.out.trans (hb1.mono HB.out.size)⟩
          · have e1 : decide (s.value < 0) = false := decide_eq_false t1
            have e2 : decide (1000000 < s.value) = true := decide_eq_true t2
            have HF := hide (NO.out hf)
            clear hf hs t1 t2 h0
            go_wp2_with (go_at_call 62; refine (RK.out _ _).mono ?_; rw [keyB_btw s.key, q1]; rintro e w5 ⟨rfl, rfl⟩)
            refine wp_region_fut wr.heap.size (by kernel_rfl) (by kernel_rfl) ?_
            repeat (go_big_quiet_step ((first | fail)))
            refine wpQuiet_nil ?_
            rintro _ ⟨⟨w1, hb1⟩, rfl⟩
            go_wp2
            go_ret
            exact ⟨by rw [HF.out]; rfl, HB.out.trans (hb1.mono HB.out.size)⟩
          · have e1 : decide (s.value < 0) = false := decide_eq_false t1
            have e2 : decide (1000000 < s.value) = false := decide_eq_false t2
            have HF := hide (NO.out hf)
            clear hf hs t1 t2 h0
            go_wp2_with (go_at_call 62; refine (RK.out _ _).mono ?_; rw [keyB_btw s.key, q1]; rintro e w5 ⟨rfl, rfl⟩)
            refine wp_region_fut wr.heap.size (by kernel_rfl) (by kernel_rfl) ?_
            repeat (go_big_quiet_step ((first | fail)))
            refine wpQuiet_nil ?_
            rintro _ ⟨⟨w1, hb1⟩, rfl⟩
            go_wp2
            go_ret
            exact ⟨by rw [HF.out]; rfl, HB.out.trans (hb1.mono HB.out.size)⟩
          · have e1 : decide (s.value < 0) = false := decide_eq_false t1
            have e2 : decide (1000000 < s.value) = false := decide_eq_false t2
            have HF := hide hf
            clear hf hs t1 t2 h0
            go_wp2_with (go_at_call 62; refine (RK.out _ _).mono ?_; rw [keyB_btw s.key, q1]; rintro e w5 ⟨rfl, rfl⟩)
            refine wp_region_fut wr.heap.size (by kernel_rfl) (by kernel_rfl) ?_
            repeat (go_big_quiet_step ((first | fail)))
            refine wpQuiet_nil ?_
            rintro _ ⟨⟨w1, hb1⟩, rfl⟩
            go_wp2
            go_roundw
            case rel => exact ⟨k + 1, by omega, by go_num, fun j hj => (by rcases Nat.lt_succ_iff_lt_or_eq.1 hj with hj | rfl; exact HA.out j hj; exact HF.out), HB.out.trans (hb1.mono HB.out.size)⟩
            case measure => simp [intOf]; omega
          · have e1 : decide (s.value < 0) = false := decide_eq_false t1
            have e2 : decide (1000000 < s.value) = false := decide_eq_false t2
            have HF := hide hf
            clear hf hs t1 t2 h0
            go_wp2_with (go_at_call 62; refine (RK.out _ _).mono ?_; rw [keyB_btw s.key, q1]; rintro e w5 ⟨rfl, rfl⟩)
            refine wp_region_fut wr.heap.size (by kernel_rfl) (by kernel_rfl) ?_
            repeat (go_big_quiet_step ((first | fail)))
            refine wpQuiet_nil ?_
            rintro _ ⟨⟨w1, hb1⟩, rfl⟩
            go_wp2
            go_roundw
            case rel => exact ⟨k + 1, by omega, by go_num, fun j hj => (by rcases Nat.lt_succ_iff_lt_or_eq.1 hj with hj | rfl; exact HA.out j hj; exact HF.out), HB.out.trans (hb1.mono HB.out.size)⟩
            case measure => simp [intOf]; omega
        · have d0 : decide (0 < k) = true := by simp; omega
          have d1 : decide (0 < (k : Int)) = true := by simp; omega
          have hlt1 : (k : Int) - 1 < (rd.length : Int) := by omega
          have hnn : (0 : Int) ≤ (k : Int) - 1 := by omega
          have m0 := (HC.out (k - 1) (by omega)).fut hbl
          unfold WrAt at m0
          have d2 : decide (s.key ≤ rd[k - 1].key) = false := decide_eq_false h1
          rcases hts with ⟨t1, hf⟩ | ⟨t1, ⟨t2, hf⟩ | ⟨t2, ⟨t3, t4, hf⟩ | ⟨t3 | ⟨t3, t4⟩, hf⟩⟩⟩
          · have e1 : decide (s.value < 0) = true := decide_eq_true t1
            have HF := hide (NO.out hf)
            clear hf hs t1 h0 h1
            go_wp2_with (go_at_call 62; refine (RK.out _ _).mono ?_; rw [keyB_btw s.key, q1]; rintro e w5 ⟨rfl, rfl⟩)
            refine wp_region_fut wr.heap.size (by kernel_rfl) (by kernel_rfl) ?_
            repeat (go_big_quiet_step ((first | fail)))
            refine wpQuiet_nil ?_
            rintro _ ⟨⟨w1, hb1⟩, rfl⟩
            go_wp2
            go_ret
            exact ⟨by rw [HF.out]; rfl, HB.out.trans (hb1.mono HB.out.size)⟩
          · have e1 : decide (s.value < 0) = false := decide_eq_false t1
            have e2 : decide (1000000 < s.value) = true := decide_eq_true t2
            have HF := hide (NO.out hf)
            clear hf hs t1 t2 h0 h1
            go_wp2_with (go_at_call 62; refine (RK.out _ _).mono ?_; rw [keyB_btw s.key, q1]; rintro e w5 ⟨rfl, rfl⟩)
            refine wp_region_fut wr.heap.size (by kernel_rfl) (by kernel_rfl) ?_
            repeat (go_big_quiet_step ((first | fail)))
            refine wpQuiet_nil ?_
            rintro _ ⟨⟨w1, hb1⟩, rfl⟩
            go_wp2
            go_ret
            exact ⟨by rw [HF.out]; rfl, HB.out.trans (hb1.mono HB.out.size)⟩
          · have e1 : decide (s.value < 0) = false := decide_eq_false t1
            have e2 : decide (1000000 < s.value) = false := decide_eq_false t2
            have HF := hide (NO.out hf)
            clear hf hs t1 t2 h0 h1
            go_wp2_with (go_at_call 62; refine (RK.out _ _).mono ?_; rw [keyB_btw s.key, q1]; rintro e w5 ⟨rfl, rfl⟩)
            refine wp_region_fut wr.heap.size (by kernel_rfl) (by kernel_rfl) ?_
            repeat (go_big_quiet_step ((first | fail)))
            refine wpQuiet_nil ?_
            rintro _ ⟨⟨w1, hb1⟩, rfl⟩
            go_wp2
            go_ret
            exact ⟨by rw [HF.out]; rfl, HB.out.trans (hb1.mono HB.out.size)⟩
          · have e1 : decide (s.value < 0) = false := decide_eq_false t1
            have e2 : decide (1000000 < s.value) = false := decide_eq_false t2
            have HF := hide hf
            clear hf hs t1 t2 h0 h1
            go_wp2_with (go_at_call 62; refine (RK.out _ _).mono ?_; rw [keyB_btw s.key, q1]; rintro e w5 ⟨rfl, rfl⟩)
            refine wp_region_fut wr.heap.size (by kernel_rfl) (by kernel_rfl) ?_
            repeat (go_big_quiet_step ((first | fail)))
            refine wpQuiet_nil ?_
            rintro _ ⟨⟨w1, hb1⟩, rfl⟩
            go_wp2
            go_roundw
            case rel => exact ⟨k + 1, by omega, by go_num, fun j hj => (by rcases Nat.lt_succ_iff_lt_or_eq.1 hj with hj | rfl; exact HA.out j hj; exact HF.out), HB.out.trans (hb1.mono HB.out.size)⟩
            case measure => simp [intOf]; omega
          · have e1 : decide (s.value < 0) = false := decide_eq_false t1
            have e2 : decide (1000000 < s.value) = false := decide_eq_false t2
            have HF := hide hf
            clear hf hs t1 t2 h0 h1
            go_wp2_with (go_at_call 62; refine (RK.out _ _).mono ?_; rw [keyB_btw s.key, q1]; rintro e w5 ⟨rfl, rfl⟩)
            refine wp_region_fut wr.heap.size (by kernel_rfl) (by kernel_rfl) ?_
            repeat (go_big_quiet_step ((first | fail)))
            refine wpQuiet_nil ?_
            rintro _ ⟨⟨w1, hb1⟩, rfl⟩
            go_wp2
            go_roundw
            case rel => exact ⟨k + 1, by omega, by go_num, fun j hj => (by rcases Nat.lt_succ_iff_lt_or_eq.1 hj with hj | rfl; exact HA.out j hj; exact HF.out), HB.out.trans (hb1.mono HB.out.size)⟩
            case measure => simp [intOf]; omega
      · have d0 : decide (0 < k) = true := by simp; omega
        have d1 : decide (0 < (k : Int)) = true := by simp; omega
        have hlt1 : (k : Int) - 1 < (rd.length : Int) := by omega
        have hnn : (0 : Int) ≤ (k : Int) - 1 := by omega
        have m0 := (HC.out (k - 1) (by omega)).fut hbl
        unfold WrAt at m0
        have d2 : decide (s.key ≤ rd[k - 1].key) = true := decide_eq_true h1
        have HF := hide (NO.out hf)
        clear hf hs h0 h1
        go_wp2_with (go_at_call 62; refine (RK.out _ _).mono ?_; rw [keyB_btw s.key, q1]; rintro e w5 ⟨rfl, rfl⟩)
        refine wp_region_fut wr.heap.size (by kernel_rfl) (by kernel_rfl) ?_
        repeat (go_big_quiet_step ((first | fail)))
        refine wpQuiet_nil ?_
        rintro _ ⟨⟨w1, hb1⟩, rfl⟩
        go_wp2
        go_ret
        exact ⟨by rw [HF.out]; rfl, HB.out.trans (hb1.mono HB.out.size)⟩
    · have HF := hide (show writesB rd = true from range_all fun j hj => HA.out j (by omega))
      have hcase : (decide ((rd.length : Int) ≤ 8) = false ∧ decide (rd.length ≤ 8) = false) ∨ (decide ((rd.length : Int) ≤ 8) = true ∧ decide (rd.length ≤ 8) = true) := by simp; omega
      clear hb
      rcases hcase with ⟨z1, z2⟩ | ⟨z1, z2⟩
      all_goals
        go_wp2
        go_ret
        exact ⟨by rw [HF.out, z2]; rfl, HB.out⟩
set_option maxHeartbeats 4000000 in
theorem rTx_any (v : TxV) (w : World) (hs : v.t.reads.length ≤ 100 ∧ v.t.writes.length ≤ 100) (h : TxW w v) :
    Calls Try.prog 31 #[.agg #[.int .i64 v.t.id, .int .i64 v.t.ts, .slice v.ra v.t.reads.length v.rc, .slice v.wa v.t.writes.length v.wc]] w fun e w' => e = .returned (.bool (formB v.t)) ∧ Below w.heap.size w w' := by
  obtain ⟨⟨id, ts, rd, wt⟩, ra, rc, wa, wc⟩ := v
  dsimp only at hs h ⊢
  have FE := hide (formB_eq ⟨id, ts, rd, wt⟩)
  dsimp only at FE
  have HR := hide h.r
  have HW := hide h.s
  dsimp only at HR HW
  obtain ⟨hr, hw⟩ := hs
  have B0 := hide ((Below.refl w.heap.size w).alloc (Nat.le_refl _) (.cells #[.int .i64 id, .int .i64 ts, .slice ra rd.length rc, .slice wa wt.length wc] 29))
  have TQ := hide fun W (hb : Below (w.alloc (.cells #[.int .i64 id, .int .i64 ts, .slice ra rd.length rc, .slice wa wt.length wc] 29)).heap.size (w.alloc (.cells #[.int .i64 id, .int .i64 ts, .slice ra rd.length rc, .slice wa wt.length wc] 29)) W) => (TxAt.new (w := w) (s := ⟨⟨id, ts, rd, wt⟩, ra, rc, wa, wc⟩) (t := 29)).below hb (by simp)
  have X1 := hide fun W (s : RS Sn.cells W ra rd) => rReads_any ra rc rd W hr s
  have X2 := hide fun W (s : RS Wr.cells W wa wt) => rWrites_any wa wc wt W hw s
  clear h
  obtain ⟨p, hp⟩ : ∃ p, p = (readsB rd && decide (rd.length ≤ 8)) := ⟨_, rfl⟩
  obtain ⟨q, hq⟩ : ∃ p, p = (writesB wt && decide (wt.length ≤ 8)) := ⟨_, rfl⟩
  rw [← hp] at X1
  rw [← hq] at X2
  have FB := hide (show formB ⟨id, ts, rd, wt⟩ = (p && q && btw id 1 1000000 && btw ts 0 3000000000000000) by
    rw [FE.out, hp, hq]
    cases readsB rd <;> cases writesB wt <;> cases btw id 1 1000000 <;> cases btw ts 0 3000000000000000 <;> cases decide (rd.length ≤ 8) <;> cases decide (wt.length ≤ 8) <;> rfl)
  clear hp hq
  have hcase : p = false ∨ p = true ∧ (q = false ∨ q = true ∧ ((decide (1 ≤ id) = false ∧ btw id 1 1000000 = false) ∨ decide (1 ≤ id) = true ∧ ((decide (id ≤ 1000000) = false ∧ btw id 1 1000000 = false) ∨ (decide (id ≤ 1000000) = true ∧ btw id 1 1000000 = true) ∧ ((decide (0 ≤ ts) = false ∧ btw ts 0 3000000000000000 = false) ∨ decide (0 ≤ ts) = true ∧ ((decide (ts ≤ 3000000000000000) = false ∧ btw ts 0 3000000000000000 = false) ∨ (decide (ts ≤ 3000000000000000) = true ∧ btw ts 0 3000000000000000 = true)))))) := by
    unfold btw
    cases p <;> cases q <;> by_cases h1 : 1 ≤ id <;> by_cases h2 : id ≤ 1000000 <;> by_cases h3 : 0 ≤ ts <;> by_cases h4 : ts ≤ 3000000000000000 <;> simp [h1, h2, h3, h4]
  rcases hcase with rfl | ⟨rfl, rfl | ⟨rfl, ⟨d1, b1⟩ | ⟨d1, ⟨d2, b1⟩ | ⟨⟨d2, b1⟩, ⟨d3, b2⟩ | ⟨d3, ⟨d4, b2⟩ | ⟨d4, b2⟩⟩⟩⟩⟩⟩
  all_goals
    go_enter Try.func31, Try.ntmps31
    go_wp2_with (first
      | (go_at_call 68; refine (X1.out _ (HR.out.then_ B0.out)).mono ?_; rintro e w1 ⟨rfl, h1⟩; have t1 := TQ.out _ h1; unfold TxAt at t1; dsimp only at t1; have BB := hide (thenB B0.out h1); have BQ := hide h1; clear h1)
      | (go_at_call 69; refine (X2.out _ (HW.out.then_ BB.out)).mono ?_; rintro e w2 ⟨rfl, h2⟩; have t2 := TQ.out _ (BQ.out.trans (h2.mono BQ.out.size)); unfold TxAt at t2; dsimp only at t2; have BB := hide (thenB BB.out h2); clear h2 t1))
    go_ret
    exact ⟨by rw [FB.out]; (try rw [b1]); (try rw [b2]); simp, BB.out⟩
end Go.Proofs.Ytficjpfhakggmaa
