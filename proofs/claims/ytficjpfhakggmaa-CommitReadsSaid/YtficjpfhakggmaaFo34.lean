/-
  The walks of package commit: between, formed.
-/
import Derived.Test.YtficjpfhakggmaaRows
import Derived.Test.YtficjpfhakggmaaPl34
namespace Go.Proofs.Ytficjpfhakggmaa
open Go.RowKit
theorem between_any (n lo hi : Int) (w : World) : Calls Try.prog 55 #[.int .i64 n, .int .i64 lo, .int .i64 hi] w fun e w' => e = .returned (.bool (btw n lo hi)) ∧ w = w' := by
  unfold btw
  by_cases h : lo ≤ n
  · have d : decide (lo ≤ n) = true := decide_eq_true h
    clear h
    go_enter Try.func55, Try.ntmps55
    go_wp2
    go_ret
    exact ⟨by rw [d]; rfl, rfl⟩
  · have d : decide (lo ≤ n) = false := decide_eq_false h
    clear h
    go_enter Try.func55, Try.ntmps55
    go_wp2
    go_ret
    exact ⟨by rw [d]; rfl, rfl⟩
set_option maxHeartbeats 8000000 in
set_option maxRecDepth 100000 in
theorem formed_any (v : TxV) (w : World) (hs : v.t.reads.length ≤ 100 ∧ v.t.writes.length ≤ 100) (h : TxW w v) :
    Calls Try.prog 44 #[.agg #[.int .i64 v.t.id, .int .i64 v.t.ts, .slice v.ra v.t.reads.length v.rc, .slice v.wa v.t.writes.length v.wc]] w fun e w' => e = .returned (.bool (formB v.t)) ∧ Below w.heap.size w w' := by
  obtain ⟨⟨id, ts, rd, wt⟩, ra, rc, wa, wc⟩ := v
  dsimp only at hs h ⊢
  have FE := hide (formB_eq ⟨id, ts, rd, wt⟩)
  dsimp only at FE
  have HR := hide h.r
  have HW := hide h.s
  dsimp only at HR HW
  obtain ⟨hr, hw⟩ := hs
  clear h
  have BT := hide between_any
  have tq : ∀ wr, Below (w.alloc (.cells #[.int .i64 id, .int .i64 ts, .slice ra rd.length rc, .slice wa wt.length wc] 79)).heap.size (w.alloc (.cells #[.int .i64 id, .int .i64 ts, .slice ra rd.length rc, .slice wa wt.length wc] 79)) wr → TxAt wr w.heap.size 0 ⟨⟨id, ts, rd, wt⟩, ra, rc, wa, wc⟩ := fun wr hb => (TxAt.new (w := w) (s := ⟨⟨id, ts, rd, wt⟩, ra, rc, wa, wc⟩) (t := 79)).below hb (by simp)
  have TQ := hide tq
  have B0 := hide ((Below.refl w.heap.size w).alloc (Nat.le_refl _) (.cells #[.int .i64 id, .int .i64 ts, .slice ra rd.length rc, .slice wa wt.length wc] 79))
  clear tq
  go_enter Try.func44, Try.ntmps44
  go_wp2_with fail
  generalize hW0 : World.alloc w _ = W0 at TQ B0
  have hsz : W0.heap.size = w.heap.size + 1 := by rw [← hW0]; simp
  have HZ := hide hsz
  clear hW0 hsz
  go_loopw [3, 4, 11] (fun _ _ i wr => ∃ k : Nat, k ≤ rd.length ∧ i = .int .i64 k ∧ (∀ j, j < k → rdAt rd j = true) ∧ Below W0.heap.size W0 wr) (fun _ _ i _ => rd.length - (intOf i).toNat)
  case atStart => exact ⟨0, Nat.zero_le _, rfl, fun j hj => by omega, Below.refl _ _⟩
  case round =>
    obtain ⟨k, hk, rfl, hall, hb⟩ := hrel
    have HA := hide hall
    have HB := hide hb
    clear hall
    by_cases hlt : k < rd.length
    · obtain ⟨b, o, rfl, hbl, hc⟩ := SnS.at_ ((HR.out.then_ B0.out).then_ hb) hlt
      have c0 := hc k hlt
      have HC := hide hc
      unfold SnAt at c0
      clear hc hb
      go_wp2_with fail
      generalize hW : World.alloc wr _ = W
      have hbW' : Below wr.heap.size wr W := hW ▸ (Below.refl _ _).alloc (Nat.le_refl _) _
      have hbW : Below W0.heap.size W0 W := HB.out.trans (hbW'.mono HB.out.size)
      have n0 := (show SnAt W wr.heap.size 0 rd[k] from hW ▸ SnAt.new).fut (Nat.lt_succ_self wr.heap.size)
      have t0 := (TQ.out W hbW).fut (show w.heap.size < wr.heap.size + 1 by have := HB.out.size; have := HZ.out; omega)
      have HS := hide (show W.heap.size = wr.heap.size + 1 by rw [← hW]; simp)
      unfold SnAt at n0
      unfold TxAt at t0
      dsimp only at t0
      clear hW c0
      have HO := hide (rdAt_b hlt)
      have HBW := hide hbW
      have hcase : (btw rd[k].key 1 1000 = false ∧ rdAt rd k = false) ∨ (btw rd[k].key 1 1000 = true ∧ btw rd[k].ts 0 3000000000000000 = false ∧ rdAt rd k = false) ∨ (btw rd[k].key 1 1000 = true ∧ btw rd[k].ts 0 3000000000000000 = true ∧ k = 0 ∧ rdAt rd k = true) ∨ (btw rd[k].key 1 1000 = true ∧ btw rd[k].ts 0 3000000000000000 = true ∧ k ≠ 0 ∧ rd[k].key ≤ (rd[k - 1]'(by omega)).key ∧ rdAt rd k = false) ∨ (btw rd[k].key 1 1000 = true ∧ btw rd[k].ts 0 3000000000000000 = true ∧ k ≠ 0 ∧ ¬rd[k].key ≤ (rd[k - 1]'(by omega)).key ∧ rdAt rd k = true) := by
        rw [HO.out]
        cases btw rd[k].key 1 1000 <;> cases btw rd[k].ts 0 3000000000000000 <;> by_cases h0 : k = 0 <;> by_cases h1 : rd[k].key ≤ (rd[k - 1]'(by omega)).key <;> simp [h0] <;> simp_all
      have hi1 : (k : Int) < 9223372036854775807 := by omega
      rcases hcase with ⟨q1, hf⟩ | ⟨q1, q2, hf⟩ | ⟨q1, q2, h0, hf⟩ | ⟨q1, q2, h0, h1, hf⟩ | ⟨q1, q2, h0, h1, hf⟩
      · have HF := hide (show formB ⟨id, ts, rd, wt⟩ = false by rw [FE.out, show readsB rd = false from range_no hlt hf]; rfl)
        clear hf
        refine wp_region_fut (wr.heap.size + 1) (by kernel_rfl) (by kernel_rfl) ?_
        repeat (go_big_quiet_step ((first | (go_at_call 55; exact Fut.same (BT.out _ _ _ _)))))
        refine wpQuiet_nil ?_
        rintro _ ⟨⟨w1, hb1⟩, rfl⟩
        go_wp2
        go_ret
        exact ⟨by rw [HF.out]; rfl, B0.out.trans ((HBW.out.trans (hb1.mono (by have := HB.out.size; omega))).mono B0.out.size)⟩
      · have HF := hide (show formB ⟨id, ts, rd, wt⟩ = false by rw [FE.out, show readsB rd = false from range_no hlt hf]; rfl)
        clear hf
        refine wp_region_fut (wr.heap.size + 1) (by kernel_rfl) (by kernel_rfl) ?_
        repeat (go_big_quiet_step ((first | (go_at_call 55; exact Fut.same (BT.out _ _ _ _)))))
        refine wpQuiet_nil ?_
        rintro _ ⟨⟨w1, hb1⟩, rfl⟩
        go_wp2
        go_ret
        exact ⟨by rw [HF.out]; rfl, B0.out.trans ((HBW.out.trans (hb1.mono (by have := HB.out.size; omega))).mono B0.out.size)⟩
      · have d0 : decide (0 < k) = false := by simp; omega
        have d1 : decide (0 < (k : Int)) = false := by simp; omega
        have HF := hide hf
        have H0 := hide h0
        clear hf h0
        refine wp_region_fut (wr.heap.size + 1) (by kernel_rfl) (by kernel_rfl) ?_
        repeat (go_big_quiet_step ((first | (go_at_call 55; exact Fut.same (BT.out _ _ _ _)))))
        refine wpQuiet_nil ?_
        rintro _ ⟨⟨w1, hb1⟩, rfl⟩
        go_wp2
        go_roundw
        case rel => exact ⟨k + 1, by omega, by go_num, fun j hj => (by rcases Nat.lt_succ_iff_lt_or_eq.1 hj with hj | rfl; exact HA.out j hj; exact HF.out), HBW.out.trans (hb1.mono (by have := HB.out.size; omega))⟩
        case measure => simp [intOf]; omega
      · have d0 : decide (0 < k) = true := by simp; omega
        have d1 : decide (0 < (k : Int)) = true := by simp; omega
        have hlt1 : (k : Int) - 1 < (rd.length : Int) := by omega
        have hnn : (0 : Int) ≤ (k : Int) - 1 := by omega
        have m0 := ((HC.out (k - 1) (by omega)).below hbW' hbl).fut (Nat.lt_succ_of_lt hbl)
        unfold SnAt at m0
        have d2 : decide (rd[k].key ≤ rd[k - 1].key) = true := decide_eq_true h1
        have HF := hide (show formB ⟨id, ts, rd, wt⟩ = false by rw [FE.out, show readsB rd = false from range_no hlt hf]; rfl)
        clear hf h0 h1
        refine wp_region_fut (wr.heap.size + 1) (by kernel_rfl) (by kernel_rfl) ?_
        repeat (go_big_quiet_step ((first | (go_at_call 55; exact Fut.same (BT.out _ _ _ _)))))
        refine wpQuiet_nil ?_
        rintro _ ⟨⟨w1, hb1⟩, rfl⟩
        go_wp2
        go_ret
        exact ⟨by rw [HF.out]; rfl, B0.out.trans ((HBW.out.trans (hb1.mono (by have := HB.out.size; omega))).mono B0.out.size)⟩
      · have d0 : decide (0 < k) = true := by simp; omega
        have d1 : decide (0 < (k : Int)) = true := by simp; omega
        have hlt1 : (k : Int) - 1 < (rd.length : Int) := by omega
        have hnn : (0 : Int) ≤ (k : Int) - 1 := by omega
        have m0 := ((HC.out (k - 1) (by omega)).below hbW' hbl).fut (Nat.lt_succ_of_lt hbl)
        unfold SnAt at m0
        have d2 : decide (rd[k].key ≤ rd[k - 1].key) = false := decide_eq_false h1
        have HF := hide hf
        clear hf h0 h1
        refine wp_region_fut (wr.heap.size + 1) (by kernel_rfl) (by kernel_rfl) ?_
        repeat (go_big_quiet_step ((first | (go_at_call 55; exact Fut.same (BT.out _ _ _ _)))))
        refine wpQuiet_nil ?_
        rintro _ ⟨⟨w1, hb1⟩, rfl⟩
        go_wp2
        go_roundw
        case rel => exact ⟨k + 1, by omega, by go_num, fun j hj => (by rcases Nat.lt_succ_iff_lt_or_eq.1 hj with hj | rfl; exact HA.out j hj; exact HF.out), HBW.out.trans (hb1.mono (by have := HB.out.size; omega))⟩
        case measure => simp [intOf]; omega
    · have HRD := hide (show readsB rd = true from range_all fun j hj => HA.out j (by omega))
      have t1 := TQ.out wr HB.out
      unfold TxAt at t1
      dsimp only at t1
      obtain ⟨W1, hW1⟩ : ∃ W1 : World, W1 = wr := ⟨_, rfl⟩
      subst hW1
      have HB0 := hide HB.out
      clear hb HA HB hk
      go_wp2_with fail
      clear t1 hlt
      go_loopw [5, 6, 48] (fun _ _ i wr => ∃ k : Nat, k ≤ wt.length ∧ i = .int .i64 k ∧ (∀ j, j < k → wrAt wt j = true) ∧ Below W0.heap.size W0 wr) (fun _ _ i _ => wt.length - (intOf i).toNat)
      case atStart => exact ⟨0, Nat.zero_le _, rfl, fun j hj => by omega, HB0.out⟩
      case round =>
        obtain ⟨k, hk, rfl, hall, hb⟩ := hrel
        have HA := hide hall
        have HB := hide hb
        clear hall
        by_cases hlt : k < wt.length
        · obtain ⟨b, o, rfl, hbl, hc⟩ := WrS.at_ ((HW.out.then_ B0.out).then_ hb) hlt
          have c0 := hc k hlt
          have HC := hide hc
          unfold WrAt at c0
          clear hc hb
          go_wp2_with fail
          generalize hW : World.alloc wr _ = W
          have hbW' : Below wr.heap.size wr W := hW ▸ (Below.refl _ _).alloc (Nat.le_refl _) _
          have hbW : Below W0.heap.size W0 W := HB.out.trans (hbW'.mono HB.out.size)
          have n0 := (show WrAt W wr.heap.size 0 wt[k] from hW ▸ WrAt.new).fut (Nat.lt_succ_self wr.heap.size)
          have t0 := (TQ.out W hbW).fut (show w.heap.size < wr.heap.size + 1 by have := HB.out.size; have := HZ.out; omega)
          have HS := hide (show W.heap.size = wr.heap.size + 1 by rw [← hW]; simp)
          unfold WrAt at n0
          unfold TxAt at t0
          dsimp only at t0
          clear hW c0
          have HO := hide (wrAt_b hlt)
          have HBW := hide hbW
          obtain ⟨gz, hgz⟩ : ∃ gz : Bool, gz = (!wt[k].gone || wt[k].value == 0) := ⟨_, rfl⟩
          have hcase : (btw wt[k].key 1 1000 = false ∧ wrAt wt k = false) ∨ (btw wt[k].key 1 1000 = true ∧ btw wt[k].value 0 1000000 = false ∧ wrAt wt k = false) ∨ (btw wt[k].key 1 1000 = true ∧ btw wt[k].value 0 1000000 = true ∧ (wt[k].gone = true ∧ (wt[k].value != 0) = true) ∧ wrAt wt k = false) ∨ (btw wt[k].key 1 1000 = true ∧ btw wt[k].value 0 1000000 = true ∧ (wt[k].gone = false ∨ wt[k].gone = true ∧ (wt[k].value != 0) = false) ∧ (k = 0 ∧ wrAt wt k = true ∨ k ≠ 0 ∧ wt[k].key ≤ (wt[k - 1]'(by omega)).key ∧ wrAt wt k = false ∨ k ≠ 0 ∧ ¬wt[k].key ≤ (wt[k - 1]'(by omega)).key ∧ wrAt wt k = true)) := by
            rw [HO.out]
            cases btw wt[k].key 1 1000 <;> cases btw wt[k].value 0 1000000 <;> by_cases h0 : k = 0 <;> by_cases h1 : wt[k].key ≤ (wt[k - 1]'(by omega)).key <;> cases hg : wt[k].gone <;> by_cases hv : wt[k].value = 0 <;> simp [h0, hv] <;> simp_all
          clear hgz
          have hi1 : (k : Int) < 9223372036854775807 := by omega
          rcases hcase with ⟨q1, hf⟩ | ⟨q1, q2, hf⟩ | ⟨q1, q2, ⟨q3, q4⟩, hf⟩ | ⟨q1, q2, q3 | ⟨q3, q4⟩, ⟨h0, hf⟩ | ⟨h0, h1, hf⟩ | ⟨h0, h1, hf⟩⟩
          · have HF := hide (show formB ⟨id, ts, rd, wt⟩ = false by rw [FE.out, show writesB wt = false from range_no hlt hf, HRD.out]; rfl)
            clear hf
            refine wp_region_fut (wr.heap.size + 1) (by kernel_rfl) (by kernel_rfl) ?_
            repeat (go_big_quiet_step ((first | (go_at_call 55; exact Fut.same (BT.out _ _ _ _)))))
            refine wpQuiet_nil ?_
            rintro _ ⟨⟨w1, hb1⟩, rfl⟩
            go_wp2
            go_ret
            exact ⟨by rw [HF.out]; rfl, B0.out.trans ((HBW.out.trans (hb1.mono (by have := HB.out.size; omega))).mono B0.out.size)⟩
          · have HF := hide (show formB ⟨id, ts, rd, wt⟩ = false by rw [FE.out, show writesB wt = false from range_no hlt hf, HRD.out]; rfl)
            clear hf
            refine wp_region_fut (wr.heap.size + 1) (by kernel_rfl) (by kernel_rfl) ?_
            repeat (go_big_quiet_step ((first | (go_at_call 55; exact Fut.same (BT.out _ _ _ _)))))
            refine wpQuiet_nil ?_
            rintro _ ⟨⟨w1, hb1⟩, rfl⟩
            go_wp2
            go_ret
            exact ⟨by rw [HF.out]; rfl, B0.out.trans ((HBW.out.trans (hb1.mono (by have := HB.out.size; omega))).mono B0.out.size)⟩
          · have HF := hide (show formB ⟨id, ts, rd, wt⟩ = false by rw [FE.out, show writesB wt = false from range_no hlt hf, HRD.out]; rfl)
            clear hf
            refine wp_region_fut (wr.heap.size + 1) (by kernel_rfl) (by kernel_rfl) ?_
            repeat (go_big_quiet_step ((first | (go_at_call 55; exact Fut.same (BT.out _ _ _ _)))))
            refine wpQuiet_nil ?_
            rintro _ ⟨⟨w1, hb1⟩, rfl⟩
            go_wp2
            go_ret
            exact ⟨by rw [HF.out]; rfl, B0.out.trans ((HBW.out.trans (hb1.mono (by have := HB.out.size; omega))).mono B0.out.size)⟩
          · have d0 : decide (0 < k) = false := by simp; omega
            have d1 : decide (0 < (k : Int)) = false := by simp; omega
            have HF := hide hf
            have H0 := hide h0
            clear hf h0
            refine wp_region_fut (wr.heap.size + 1) (by kernel_rfl) (by kernel_rfl) ?_
            repeat (go_big_quiet_step ((first | (go_at_call 55; exact Fut.same (BT.out _ _ _ _)))))
            refine wpQuiet_nil ?_
            rintro _ ⟨⟨w1, hb1⟩, rfl⟩
            go_wp2
            go_roundw
            case rel => exact ⟨k + 1, by omega, by go_num, fun j hj => (by rcases Nat.lt_succ_iff_lt_or_eq.1 hj with hj | rfl; exact HA.out j hj; exact HF.out), HBW.out.trans (hb1.mono (by have := HB.out.size; omega))⟩
            case measure => simp [intOf]; omega
          · have d0 : decide (0 < k) = true := by simp; omega
            have d1 : decide (0 < (k : Int)) = true := by simp; omega
            have hlt1 : (k : Int) - 1 < (wt.length : Int) := by omega
            have hnn : (0 : Int) ≤ (k : Int) - 1 := by omega
            have m0 := ((HC.out (k - 1) (by omega)).below hbW' hbl).fut (Nat.lt_succ_of_lt hbl)
            unfold WrAt at m0
            have d2 : decide (wt[k].key ≤ wt[k - 1].key) = true := decide_eq_true h1
            have HF := hide (show formB ⟨id, ts, rd, wt⟩ = false by rw [FE.out, show writesB wt = false from range_no hlt hf, HRD.out]; rfl)
            clear hf h0 h1
            refine wp_region_fut (wr.heap.size + 1) (by kernel_rfl) (by kernel_rfl) ?_
            repeat (go_big_quiet_step ((first | (go_at_call 55; exact Fut.same (BT.out _ _ _ _)))))
            refine wpQuiet_nil ?_
            rintro _ ⟨⟨w1, hb1⟩, rfl⟩
            go_wp2
            go_ret
            exact ⟨by rw [HF.out]; rfl, B0.out.trans ((HBW.out.trans (hb1.mono (by have := HB.out.size; omega))).mono B0.out.size)⟩
          · have d0 : decide (0 < k) = true := by simp; omega
            have d1 : decide (0 < (k : Int)) = true := by simp; omega
            have hlt1 : (k : Int) - 1 < (wt.length : Int) := by omega
            have hnn : (0 : Int) ≤ (k : Int) - 1 := by omega
            have m0 := ((HC.out (k - 1) (by omega)).below hbW' hbl).fut (Nat.lt_succ_of_lt hbl)
            unfold WrAt at m0
            have d2 : decide (wt[k].key ≤ wt[k - 1].key) = false := decide_eq_false h1
            have HF := hide hf
            clear hf h0 h1
            refine wp_region_fut (wr.heap.size + 1) (by kernel_rfl) (by kernel_rfl) ?_
            repeat (go_big_quiet_step ((first | (go_at_call 55; exact Fut.same (BT.out _ _ _ _)))))
            refine wpQuiet_nil ?_
            rintro _ ⟨⟨w1, hb1⟩, rfl⟩
            go_wp2
            go_roundw
            case rel => exact ⟨k + 1, by omega, by go_num, fun j hj => (by rcases Nat.lt_succ_iff_lt_or_eq.1 hj with hj | rfl; exact HA.out j hj; exact HF.out), HBW.out.trans (hb1.mono (by have := HB.out.size; omega))⟩
            case measure => simp [intOf]; omega
          · have d0 : decide (0 < k) = false := by simp; omega
            have d1 : decide (0 < (k : Int)) = false := by simp; omega
            have HF := hide hf
            have H0 := hide h0
            clear hf h0
            refine wp_region_fut (wr.heap.size + 1) (by kernel_rfl) (by kernel_rfl) ?_
            repeat (go_big_quiet_step ((first | (go_at_call 55; exact Fut.same (BT.out _ _ _ _)))))
            refine wpQuiet_nil ?_
            rintro _ ⟨⟨w1, hb1⟩, rfl⟩
            go_wp2
            go_roundw
            case rel => exact ⟨k + 1, by omega, by go_num, fun j hj => (by rcases Nat.lt_succ_iff_lt_or_eq.1 hj with hj | rfl; exact HA.out j hj; exact HF.out), HBW.out.trans (hb1.mono (by have := HB.out.size; omega))⟩
            case measure => simp [intOf]; omega
          · have d0 : decide (0 < k) = true := by simp; omega
            have d1 : decide (0 < (k : Int)) = true := by simp; omega
            have hlt1 : (k : Int) - 1 < (wt.length : Int) := by omega
            have hnn : (0 : Int) ≤ (k : Int) - 1 := by omega
            have m0 := ((HC.out (k - 1) (by omega)).below hbW' hbl).fut (Nat.lt_succ_of_lt hbl)
            unfold WrAt at m0
            have d2 : decide (wt[k].key ≤ wt[k - 1].key) = true := decide_eq_true h1
            have HF := hide (show formB ⟨id, ts, rd, wt⟩ = false by rw [FE.out, show writesB wt = false from range_no hlt hf, HRD.out]; rfl)
            clear hf h0 h1
            refine wp_region_fut (wr.heap.size + 1) (by kernel_rfl) (by kernel_rfl) ?_
            repeat (go_big_quiet_step ((first | (go_at_call 55; exact Fut.same (BT.out _ _ _ _)))))
            refine wpQuiet_nil ?_
            rintro _ ⟨⟨w1, hb1⟩, rfl⟩
            go_wp2
            go_ret
            exact ⟨by rw [HF.out]; rfl, B0.out.trans ((HBW.out.trans (hb1.mono (by have := HB.out.size; omega))).mono B0.out.size)⟩
          · have d0 : decide (0 < k) = true := by simp; omega
            have d1 : decide (0 < (k : Int)) = true := by simp; omega
            have hlt1 : (k : Int) - 1 < (wt.length : Int) := by omega
            have hnn : (0 : Int) ≤ (k : Int) - 1 := by omega
            have m0 := ((HC.out (k - 1) (by omega)).below hbW' hbl).fut (Nat.lt_succ_of_lt hbl)
            unfold WrAt at m0
            have d2 : decide (wt[k].key ≤ wt[k - 1].key) = false := decide_eq_false h1
            have HF := hide hf
            clear hf h0 h1
            refine wp_region_fut (wr.heap.size + 1) (by kernel_rfl) (by kernel_rfl) ?_
            repeat (go_big_quiet_step ((first | (go_at_call 55; exact Fut.same (BT.out _ _ _ _)))))
            refine wpQuiet_nil ?_
            rintro _ ⟨⟨w1, hb1⟩, rfl⟩
            go_wp2
            go_roundw
            case rel => exact ⟨k + 1, by omega, by go_num, fun j hj => (by rcases Nat.lt_succ_iff_lt_or_eq.1 hj with hj | rfl; exact HA.out j hj; exact HF.out), HBW.out.trans (hb1.mono (by have := HB.out.size; omega))⟩
            case measure => simp [intOf]; omega
        · have HWT := hide (show writesB wt = true from range_all fun j hj => HA.out j (by omega))
          have t1 := TQ.out wr HB.out
          unfold TxAt at t1
          dsimp only at t1
          have FB := hide (show formB ⟨id, ts, rd, wt⟩ = (btw id 1 1000000 && btw ts 0 3000000000000000 && decide (rd.length ≤ 8) && decide (wt.length ≤ 8)) by rw [FE.out, HRD.out, HWT.out]; rfl)
          have HX := hide (B0.out.trans (HB.out.mono B0.out.size))
          clear hb HA HB hk
          have hcase : btw id 1 1000000 = false ∨ btw id 1 1000000 = true ∧ (btw ts 0 3000000000000000 = false ∨ btw ts 0 3000000000000000 = true ∧ ((decide ((rd.length : Int) ≤ 8) = false ∧ decide (rd.length ≤ 8) = false) ∨ (decide ((rd.length : Int) ≤ 8) = true ∧ decide (rd.length ≤ 8) = true) ∧ ((decide ((wt.length : Int) ≤ 8) = false ∧ decide (wt.length ≤ 8) = false) ∨ (decide ((wt.length : Int) ≤ 8) = true ∧ decide (wt.length ≤ 8) = true)))) := by
            cases btw id 1 1000000 <;> cases btw ts 0 3000000000000000 <;> simp <;> omega
          rcases hcase with q1 | ⟨q1, q2 | ⟨q2, ⟨q3, q3'⟩ | ⟨⟨q3, q3'⟩, ⟨q4, q4'⟩ | ⟨q4, q4'⟩⟩⟩⟩
          · have HF := hide (show formB ⟨id, ts, rd, wt⟩ = false by rw [FB.out, q1]; rfl)
            go_wp2_with (go_at_call 55; refine (BT.out _ _ _ _).mono ?_; rintro e w5 ⟨rfl, rfl⟩)
            go_ret
            exact ⟨by rw [HF.out]; rfl, HX.out⟩
          · have HF := hide (show formB ⟨id, ts, rd, wt⟩ = false by rw [FB.out, q1, q2]; rfl)
            go_wp2_with (go_at_call 55; refine (BT.out _ _ _ _).mono ?_; rintro e w5 ⟨rfl, rfl⟩)
            go_ret
            exact ⟨by rw [HF.out]; rfl, HX.out⟩
          · have HF := hide (show formB ⟨id, ts, rd, wt⟩ = false by rw [FB.out, q1, q2, q3']; rfl)
            go_wp2_with (go_at_call 55; refine (BT.out _ _ _ _).mono ?_; rintro e w5 ⟨rfl, rfl⟩)
            go_ret
            exact ⟨by rw [HF.out]; rfl, HX.out⟩
          · have HF := hide (show formB ⟨id, ts, rd, wt⟩ = false by rw [FB.out, q1, q2, q3', q4']; rfl)
            go_wp2_with (go_at_call 55; refine (BT.out _ _ _ _).mono ?_; rintro e w5 ⟨rfl, rfl⟩)
            go_ret
            exact ⟨by rw [HF.out]; rfl, HX.out⟩
          · have HF := hide (show formB ⟨id, ts, rd, wt⟩ = true by rw [FB.out, q1, q2, q3', q4']; rfl)
            go_wp2_with (go_at_call 55; refine (BT.out _ _ _ _).mono ?_; rintro e w5 ⟨rfl, rfl⟩)
            go_ret
            exact ⟨by rw [HF.out]; rfl, HX.out⟩
end Go.Proofs.Ytficjpfhakggmaa
