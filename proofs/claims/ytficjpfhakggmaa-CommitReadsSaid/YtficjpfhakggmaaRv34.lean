/-
  The walks of the reference implementation of layer 34: greatest, versions, Valid.
-/
import Derived.Test.YtficjpfhakggmaaRp34
namespace Go.Proofs.Ytficjpfhakggmaa
open Go.RowKit
theorem rGreatest_any (A : Option Addr) (c : Nat) (st : List Ver) (w : World) (hn : st.length ≤ 1000000) (h : VS w A st) :
    Calls Try.prog 57 #[.slice A st.length c] w fun e w' => e = .returned (.int .i64 (maxTs st)) ∧ w = w' := by
  have HS := hide h
  clear h
  go_enter Try.func57, Try.ntmps57
  go_wp2_with fail
  go_loopw [3, 4] (fun m i wr => ∃ k : Nat, k ≤ st.length ∧ i = .int .i64 k ∧ m = .int .i64 (maxTs (st.take k)) ∧ wr = w) (fun _ i _ => st.length - (intOf i).toNat)
  case atStart => exact ⟨0, Nat.zero_le _, rfl, rfl, rfl⟩
  case round =>
    obtain ⟨k, hk, rfl, rfl, rfl⟩ := hrel
    by_cases hlt : k < st.length
    · obtain ⟨b, o, rfl, hbl, hc⟩ := HS.out.at_ hlt
      have c0 := hc k hlt
      have MS := hide (show maxTs (st.take (k + 1)) = max (maxTs (st.take k)) st[k].ts by rw [take_snoc hlt, maxTs_snoc])
      obtain ⟨m, hm⟩ : ∃ m, m = maxTs (st.take k) := ⟨_, rfl⟩
      rw [← hm] at MS ⊢
      obtain ⟨s, hs⟩ : ∃ s, s = st[k] := ⟨_, rfl⟩
      rw [← hs] at MS c0
      unfold VAt at c0
      clear hc hm hs
      go_wp2
      go_roundw
      case rel => exact ⟨k + 1, by omega, by go_num, by rw [MS.out]; first | rfl | (congr 1; split <;> omega) | (congr 1; omega), by trivial⟩
      case measure => simp [intOf]; omega
    · have ME := hide (show maxTs (st.take k) = maxTs st by rw [List.take_of_length_le (by omega)])
      go_wp2
      go_ret
      exact ⟨by rw [ME.out]; rfl, rfl⟩
set_option maxHeartbeats 4000000 in
theorem rVersions_any (OA : Option Addr) (oc : Nat) (op : List TxV) (w : World) (hs : Small (txs op)) (h : TS w OA op) :
    Calls Try.prog 53 #[.slice OA op.length oc] w fun e w' => e = .returned (.int .i64 ((wlen (txs op) : Nat) : Int)) ∧ w = w' := by
  have HT := hide h
  have hl : op.length ≤ 2000 := by have := hs.len; rw [txs_len] at this; exact this
  have WL := hide (fun k => wlen_le (hs.pre k))
  have HS := hide hs
  clear h hs
  go_enter Try.func53, Try.ntmps53
  go_wp2_with fail
  go_loopw [3, 4] (fun n i wr => ∃ k : Nat, k ≤ op.length ∧ i = .int .i64 k ∧ n = .int .i64 ((wlen ((txs op).take k) : Nat) : Int) ∧ wr = w) (fun _ i _ => op.length - (intOf i).toNat)
  case atStart => exact ⟨0, Nat.zero_le _, rfl, rfl, rfl⟩
  case round =>
    obtain ⟨k, hk, rfl, rfl, rfl⟩ := hrel
    by_cases hlt : k < op.length
    · obtain ⟨b, o, rfl, hbl, hc⟩ := HT.out.at_ hlt
      have c0 := (hc k hlt).1
      have hlt' : k < (txs op).length := by rw [txs_len]; exact hlt
      have WS := hide (show wlen ((txs op).take (k + 1)) = wlen ((txs op).take k) + op[k].t.writes.length by rw [take_snoc hlt', wlen_snoc, txs_get hlt])
      have w1 := WL.out k
      have w2 : op[k].t.writes.length ≤ 100 := (HS.out.each _ (List.mem_map.2 ⟨op[k], List.getElem_mem _, rfl⟩)).2
      have w3 : ((txs op).take k).length ≤ 2000 := by simp; omega
      obtain ⟨a, ha⟩ : ∃ a, a = wlen ((txs op).take k) := ⟨_, rfl⟩
      obtain ⟨m, hm⟩ : ∃ m, m = op[k].t.writes.length := ⟨_, rfl⟩
      unfold TxAt at c0
      rw [← ha, ← hm] at WS
      rw [← ha] at w1
      rw [← hm] at w2 c0
      have w4 : a ≤ 2000000 := by omega
      rw [← ha]
      clear hc ha hm w1 w3
      go_wp2
      go_roundw
      case rel => exact ⟨k + 1, by omega, by go_num, by rw [WS.out]; go_num, by trivial⟩
      case measure => simp [intOf]; omega
    · have HE := hide (show (txs op).take k = txs op from List.take_of_length_le (by rw [txs_len]; omega))
      go_wp2
      go_ret
      exact ⟨by rw [HE.out]; rfl, rfl⟩
theorem chain_ge {m : Int} : ∀ {l : List Tx}, chainB m l = true → m ≤ lastTs m l
  | [], _ => Int.le_refl _
  | t :: l, h => by
    unfold chainB at h
    rw [Bool.and_eq_true, Bool.and_eq_true, decide_eq_true_eq] at h
    have := chain_ge (m := t.ts) (l := l) h.2
    unfold lastTs
    omega
/-- what Valid of the reference implementation says -/
theorem leadB_ref (last : Int) (st : List Ver) (op : List Tx) : leadB last st op = (validB st && btw last 0 3000000000000000 && decide (maxTs st ≤ last) && decide (op.length ≤ 2000) && chainB (maxTs st) op && decide (lastTs (maxTs st) op ≤ last) && decide (st.length + wlen op ≤ 4000)) := by
  rw [leadB_eq]
  cases h1 : chainB (maxTs st) op
  · simp
  · have := chain_ge h1
    by_cases h2 : lastTs (maxTs st) op ≤ last
    · have h3 : maxTs st ≤ last := by omega
      rw [decide_eq_true h2, decide_eq_true h3]
      cases validB st <;> cases btw last 0 3000000000000000 <;> cases decide (op.length ≤ 2000) <;> cases decide (st.length + wlen op ≤ 4000) <;> rfl
    · simp [h2]
set_option maxHeartbeats 16000000 in
set_option maxRecDepth 100000 in
theorem rLeadValid_any (last : Int) (SA : Option Addr) (sc : Nat) (st : List Ver) (OA : Option Addr) (oc : Nat) (op : List TxV) (w : World) (hs : Small (txs op)) (hsn : st.length ≤ 1000000) (hS : VS w SA st) (h : TS w OA op) :
    Calls Try.prog 17 #[.agg #[.int .i64 last, .slice SA st.length sc, .slice OA op.length oc]] w fun e w' => e = .returned (.bool (leadB last st (txs op))) ∧ Below w.heap.size w w' := by
  have hl : op.length ≤ 2000 := by have := hs.len; rw [txs_len] at this; exact this
  have SE := hide (fun t (ht : t ∈ txs op) => hs.each t ht)
  have ld := fun wr (hb : Below (w.alloc (.cells #[.int .i64 last, .slice SA st.length sc, .slice OA op.length oc] 25)).heap.size (w.alloc (.cells #[.int .i64 last, .slice SA st.length sc, .slice OA op.length oc] 25)) wr) => (LdAt.new (w := w) (t := 25) (last := last) (S := .slice SA st.length sc) (O := .slice OA op.length oc)).below hb (by simp)
  have LD := hide ld
  have HS := hide hS
  have HT := hide h
  have V1 := hide fun W (s : VS W SA st) => rValid_any SA sc st W (by omega) s
  have V2 := hide fun W (s : VS W SA st) => rGreatest_any SA sc st W hsn s
  have Z1 := hide fun W (s : TS W OA op) => rVersions_any OA oc op W hs s
  have wl1 := wlen_le hs
  rw [txs_len] at wl1
  obtain ⟨wl, hwl⟩ : ∃ z, z = wlen (txs op) := ⟨_, rfl⟩
  have LE := hide (leadB_ref last st (txs op))
  rw [← hwl] at Z1 LE wl1
  rw [txs_len] at LE
  obtain ⟨M, hM⟩ : ∃ M, M = maxTs st := ⟨_, rfl⟩
  rw [← hM] at LE V2
  have B0 := hide ((Below.refl w.heap.size w).alloc (Nat.le_refl _) (.cells #[.int .i64 last, .slice SA st.length sc, .slice OA op.length oc] 25))
  have g0 : decide (2000 < (op.length : Int)) = false := decide_eq_false (by omega)
  have g1 : decide (2000 < op.length) = false := decide_eq_false (by omega)
  have zs : (st.length : Int) + (wl : Int) ≤ 2000000 := by omega
  have zw : IntKind.i64.wrap ((st.length : Int) + (wl : Int)) = (st.length : Int) + (wl : Int) := IntWalk.i64_in _ (by omega)
  have hcase : validB st = false ∨ validB st = true ∧ ((decide (last < 0) = true ∧ btw last 0 3000000000000000 = false) ∨ decide (last < 0) = false ∧ ((decide (3000000000000000 < last) = true ∧ btw last 0 3000000000000000 = false) ∨ (decide (3000000000000000 < last) = false ∧ btw last 0 3000000000000000 = true) ∧ (decide (last < M) = true ∧ ¬M ≤ last ∨ decide (last < M) = false ∧ M ≤ last))) := by
    unfold btw
    cases validB st <;> by_cases h1 : last < 0 <;> by_cases h2 : 3000000000000000 < last <;> by_cases h3 : last < M <;> simp [h1, h2, h3] <;> omega
  clear ld hS h hwl hs hM
  rcases hcase with q1 | ⟨q1, ⟨d1, b1⟩ | ⟨d1, ⟨d2, b1⟩ | ⟨⟨d2, b1⟩, ⟨d3, z3⟩ | ⟨d3, z3⟩⟩⟩⟩
  · have HF := hide (show leadB last st (txs op) = false by rw [LE.out, q1]; rfl)
    rw [q1] at V1
    clear q1
    go_enter Try.func17, Try.ntmps17
    go_wp2_with (first
      | (go_at_call 56; refine (V1.out _ (HS.out.below B0.out (Nat.le_refl _))).mono ?_; rintro e w1 ⟨rfl, h1⟩; have BL := hide h1; have BB := hide (thenB B0.out h1); have l1 := LD.out _ h1; unfold LdAt at l1; clear h1)
      | (go_at_call 57; refine (V2.out _ (HS.out.then_ BB.out)).mono ?_; rintro e w2 ⟨rfl, rfl⟩))
    go_ret
    exact ⟨by rw [HF.out]; rfl, BB.out⟩
  · have HF := hide (show leadB last st (txs op) = false by rw [LE.out, q1, b1]; rfl)
    rw [q1] at V1
    clear q1
    go_enter Try.func17, Try.ntmps17
    go_wp2_with (first
      | (go_at_call 56; refine (V1.out _ (HS.out.below B0.out (Nat.le_refl _))).mono ?_; rintro e w1 ⟨rfl, h1⟩; have BL := hide h1; have BB := hide (thenB B0.out h1); have l1 := LD.out _ h1; unfold LdAt at l1; clear h1)
      | (go_at_call 57; refine (V2.out _ (HS.out.then_ BB.out)).mono ?_; rintro e w2 ⟨rfl, rfl⟩))
    go_ret
    exact ⟨by rw [HF.out]; rfl, BB.out⟩
  · have HF := hide (show leadB last st (txs op) = false by rw [LE.out, q1, b1]; rfl)
    rw [q1] at V1
    clear q1
    go_enter Try.func17, Try.ntmps17
    go_wp2_with (first
      | (go_at_call 56; refine (V1.out _ (HS.out.below B0.out (Nat.le_refl _))).mono ?_; rintro e w1 ⟨rfl, h1⟩; have BL := hide h1; have BB := hide (thenB B0.out h1); have l1 := LD.out _ h1; unfold LdAt at l1; clear h1)
      | (go_at_call 57; refine (V2.out _ (HS.out.then_ BB.out)).mono ?_; rintro e w2 ⟨rfl, rfl⟩))
    go_ret
    exact ⟨by rw [HF.out]; rfl, BB.out⟩
  · have HF := hide (show leadB last st (txs op) = false by rw [LE.out, q1, b1, decide_eq_false z3]; rfl)
    rw [q1] at V1
    clear q1 z3
    go_enter Try.func17, Try.ntmps17
    go_wp2_with (first
      | (go_at_call 56; refine (V1.out _ (HS.out.below B0.out (Nat.le_refl _))).mono ?_; rintro e w1 ⟨rfl, h1⟩; have BL := hide h1; have BB := hide (thenB B0.out h1); have l1 := LD.out _ h1; unfold LdAt at l1; clear h1)
      | (go_at_call 57; refine (V2.out _ (HS.out.then_ BB.out)).mono ?_; rintro e w2 ⟨rfl, rfl⟩))
    go_ret
    exact ⟨by rw [HF.out]; rfl, BB.out⟩
  · have LF := hide (show leadB last st (txs op) = (chainB M (txs op) && decide (lastTs M (txs op) ≤ last) && decide (st.length + wl ≤ 4000)) by rw [LE.out, q1, b1, decide_eq_true z3, decide_eq_true hl]; rfl)
    rw [q1] at V1
    clear q1 z3
    go_enter Try.func17, Try.ntmps17
    go_wp2_with (first
      | (go_at_call 56; refine (V1.out _ (HS.out.below B0.out (Nat.le_refl _))).mono ?_; rintro e w1 ⟨rfl, h1⟩; have BL := hide h1; have BB := hide (thenB B0.out h1); have l1 := LD.out _ h1; unfold LdAt at l1; clear h1)
      | (go_at_call 57; refine (V2.out _ (HS.out.then_ BB.out)).mono ?_; rintro e w2 ⟨rfl, rfl⟩))
    clear l1
    rename World => w3
    go_loopw [4, 5] (fun m i wr => ∃ k : Nat, k ≤ op.length ∧ i = .int .i64 k ∧ m = .int .i64 (lastTs M ((txs op).take k)) ∧ chainB M ((txs op).take k) = true ∧ Below w3.heap.size w3 wr) (fun _ i _ => op.length - (intOf i).toNat)
    case atStart => exact ⟨0, Nat.zero_le _, rfl, rfl, rfl, Below.refl _ _⟩
    case round =>
      obtain ⟨k, hk, rfl, rfl, hch, hb⟩ := hrel
      have HB := hide hb
      have HC := hide hch
      have l3 := LD.out _ (BL.out.trans (hb.mono BL.out.size))
      unfold LdAt at l3
      clear hch
      by_cases hlt : k < op.length
      · have hi1 : (k : Int) < 9223372036854775807 := by omega
        obtain ⟨b, o, rfl, hbl, hc⟩ := ((HT.out.then_ BB.out).then_ hb).at_ hlt
        have c0 := hide (hc k hlt).1
        have TW := hide (hc k hlt).2
        have hlt' : k < (txs op).length := by rw [txs_len]; exact hlt
        have CN0 := hide (fun h => @chain_no M (txs op) k hlt' h)
        have CS := hide (show chainB M ((txs op).take (k + 1)) = (chainB M ((txs op).take k) && (formB op[k].t && decide (lastTs M ((txs op).take k) < op[k].t.ts))) by rw [take_snoc hlt', chainB_snoc, txs_get hlt])
        have LS := hide (show lastTs M ((txs op).take (k + 1)) = op[k].t.ts by rw [take_snoc hlt', lastTs_snoc, txs_get hlt])
        have FO0 := fun W (s : TxW W op[k]) => rTx_any op[k] W (SE.out _ (List.mem_map.2 ⟨op[k], List.getElem_mem _, rfl⟩)) s
        obtain ⟨v, hv⟩ : ∃ v, v = op[k] := ⟨_, rfl⟩
        have CN := hide (fun (h : (formB v.t && decide (lastTs M ((txs op).take k) < v.t.ts)) = false) => CN0.out (by rw [txs_get hlt, ← hv]; exact h))
        rw [← hv] at c0 TW CS LS FO0
        rw [HC.out, Bool.true_and] at CS
        have FO := hide FO0
        obtain ⟨m, hm⟩ : ∃ m, m = lastTs M ((txs op).take k) := ⟨_, rfl⟩
        rw [← hm] at CN CS ⊢
        have TC := hide fun W (hB : Below wr.heap.size wr W) => (show TxAt W b (o + k * 4) v from c0.out.below hB hbl)
        have LC := hide fun W (hB : Below wr.heap.size wr W) => LD.out W (BL.out.trans ((HB.out.trans (hB.mono HB.out.size)).mono BL.out.size))
        have c1 := c0.out
        unfold TxAt at c1
        clear hc hb hv hm CN0 hlt' FO0 c0
        cases hq : formB v.t
        · have HF := hide (show leadB last st (txs op) = false by rw [LF.out, CN.out (by rw [hq]; rfl)]; rfl)
          rw [hq] at FO
          clear hq
          go_wp2_with (go_at_call 31; refine (FO.out _ TW.out).mono ?_; rintro e w5 ⟨rfl, h5⟩; have H5 := hide (thenB HB.out h5); clear h5)
          go_ret
          exact ⟨by rw [HF.out]; rfl, thenB BB.out H5.out⟩
        · by_cases hts : v.t.ts ≤ m
          · have d4 : decide (v.t.ts ≤ m) = true := decide_eq_true hts
            have HF := hide (show leadB last st (txs op) = false by rw [LF.out, CN.out (by rw [hq, decide_eq_false (show ¬m < v.t.ts by omega)]; rfl)]; rfl)
            rw [hq] at FO
            clear hq hts
            go_wp2_with (go_at_call 31; refine (FO.out _ TW.out).mono ?_; rintro e w5 ⟨rfl, h5⟩; have n5 := TC.out _ h5; have l5 := LC.out _ h5; unfold TxAt at n5; unfold LdAt at l5; have H5 := hide (thenB HB.out h5); clear h5)
            go_ret
            exact ⟨by rw [HF.out]; rfl, thenB BB.out H5.out⟩
          · have d4 : decide (v.t.ts ≤ m) = false := decide_eq_false hts
            have CT := hide (show chainB M ((txs op).take (k + 1)) = true by rw [CS.out, hq, decide_eq_true (show m < v.t.ts by omega)]; rfl)
            rw [hq] at FO
            clear hq hts
            go_wp2_with (go_at_call 31; refine (FO.out _ TW.out).mono ?_; rintro e w5 ⟨rfl, h5⟩; have n5 := TC.out _ h5; have l5 := LC.out _ h5; unfold TxAt at n5; unfold LdAt at l5; have H5 := hide (thenB HB.out h5); clear h5)
            go_roundw
            case rel => exact ⟨k + 1, by omega, by go_num, by rw [LS.out], CT.out, H5.out⟩
            case measure => simp [intOf]; omega
      · have CE := hide (show (txs op).take k = txs op from List.take_of_length_le (by rw [txs_len]; omega))
        have HF := hide (show leadB last st (txs op) = (decide (lastTs M (txs op) ≤ last) && decide (st.length + wl ≤ 4000)) by rw [LF.out, ← CE.out, HC.out, Bool.true_and])
        rw [CE.out]
        obtain ⟨m, hm⟩ : ∃ m, m = lastTs M (txs op) := ⟨_, rfl⟩
        rw [← hm] at HF ⊢
        have TT := hide ((HT.out.then_ BB.out).then_ hb)
        have LF2 := hide fun y : Fut wr.heap.size wr => LD.out y.v (BL.out.trans ((HB.out.trans (y.h.mono HB.out.size)).mono BL.out.size))
        have lf := LF2.out
        unfold LdAt at lf
        have hcase : (decide (m ≤ last) = false) ∨ (decide (m ≤ last) = true ∧ ((decide ((st.length : Int) + (wl : Int) ≤ 4000) = false ∧ decide (st.length + wl ≤ 4000) = false) ∨ (decide ((st.length : Int) + (wl : Int) ≤ 4000) = true ∧ decide (st.length + wl ≤ 4000) = true))) := by
          by_cases h1 : m ≤ last <;> by_cases h2 : st.length + wl ≤ 4000 <;> simp [h1, h2] <;> omega
        have Z2 := hide fun y : Fut wr.heap.size wr => Z1.out y.v (TT.out.then_ y.h)
        clear hb hm
        rcases hcase with y1 | ⟨y1, ⟨y2, y3⟩ | ⟨y2, y3⟩⟩
        · go_wp2_with fail
          refine wp_region_fut wr.heap.size (by kernel_rfl) (by kernel_rfl) ?_
          repeat (go_big_quiet_step ((first | (go_at_call 53; exact Fut.same (Z2.out _)))))
          refine wpQuiet_nil ?_
          intro w6 hq'; have h6 := Fut.of hq'; clear hq'
          go_wp2
          go_ret
          exact ⟨by rw [HF.out, y1]; rfl, thenB BB.out (thenB HB.out h6)⟩
        all_goals
          go_wp2_with fail
          refine wp_region_fut wr.heap.size (by kernel_rfl) (by kernel_rfl) ?_
          repeat (go_big_quiet_step ((first | (go_at_call 53; exact Fut.same (Z2.out _)))))
          refine wpQuiet_nil ?_
          intro w6 hq'; have h6 := Fut.of hq'; clear hq'
          go_wp2
          go_ret
          exact ⟨by rw [HF.out, y1, y3]; rfl, thenB BB.out (thenB HB.out h6)⟩
end Go.Proofs.Ytficjpfhakggmaa
