/-
  The walks of package commit: size, Valid.
-/
import Derived.Test.YtficjpfhakggmaaFo34
import Derived.Test.YtficjpfhakggmaaValid
namespace Go.Proofs.Ytficjpfhakggmaa
open Go.RowKit
set_option maxHeartbeats 4000000 in
theorem size_any (last : Int) (SA : Option Addr) (sn sc : Nat) (OA : Option Addr) (oc : Nat) (op : List TxV) (w : World) (hs : Small (txs op)) (hsn : sn ≤ 1000000) (h : TS w OA op) :
    Calls Try.prog 48 #[.agg #[.int .i64 last, .slice SA sn sc, .slice OA op.length oc]] w fun e w' => e = .returned (.int .i64 ((sn + wlen (txs op) : Nat) : Int)) ∧ Below w.heap.size w w' := by
  have HT := hide h
  have hl : op.length ≤ 2000 := by have := hs.len; rw [txs_len] at this; exact this
  have WL := hide (fun k => wlen_le (hs.pre k))
  have HS := hide hs
  clear h
  have B0 := hide ((Below.refl w.heap.size w).alloc (Nat.le_refl _) (.cells #[.int .i64 last, .slice SA sn sc, .slice OA op.length oc] 25))
  clear hs
  go_enter Try.func48, Try.ntmps48
  go_wp2_with fail
  generalize hW0 : World.alloc w _ = W0 at B0
  clear hW0
  go_loopw [3, 5, 12] (fun n _ i wr => ∃ k : Nat, k ≤ op.length ∧ i = .int .i64 k ∧ n = .int .i64 ((sn + wlen ((txs op).take k) : Nat) : Int) ∧ Below W0.heap.size W0 wr) (fun _ _ i _ => op.length - (intOf i).toNat)
  case atStart => exact ⟨0, Nat.zero_le _, rfl, rfl, Below.refl _ _⟩
  case round =>
    obtain ⟨k, hk, rfl, rfl, hb⟩ := hrel
    have HB := hide hb
    by_cases hlt : k < op.length
    · obtain ⟨b, o, rfl, hbl, hc⟩ := ((HT.out.then_ B0.out).then_ hb).at_ hlt
      have c0 := (hc k hlt).1
      have hlt' : k < (txs op).length := by rw [txs_len]; exact hlt
      have WS := hide (show wlen ((txs op).take (k + 1)) = wlen ((txs op).take k) + op[k].t.writes.length by rw [take_snoc hlt', wlen_snoc, txs_get hlt])
      have w1 := WL.out k
      have w2 : op[k].t.writes.length ≤ 100 := (HS.out.each _ (List.mem_map.2 ⟨op[k], List.getElem_mem _, rfl⟩)).2
      have w3 : ((txs op).take k).length ≤ 2000 := by simp; omega
      obtain ⟨a, ha⟩ : ∃ a, a = wlen ((txs op).take k) := ⟨_, rfl⟩
      obtain ⟨m, hm⟩ : ∃ m, m = op[k].t.writes.length := ⟨_, rfl⟩
      unfold TxAt at c0
      rw [← ha, ← hm] at WS
      rw [← ha] at w1
      rw [← hm] at w2 c0
      have w4 : sn + a ≤ 2000000 := by omega
      have w5 : sn + a + m ≤ 3000000 := by omega
      have e0 : ((sn + a : Nat) : Int) + (m : Int) = ((sn + a + m : Nat) : Int) := by omega
      rw [← ha]
      obtain ⟨s, hs⟩ : ∃ s, s = sn + a := ⟨_, rfl⟩
      rw [← hs] at w4 w5 ⊢
      have HSS := hide hs
      clear hc hb ha hm w1 w3 e0 hs
      go_wp2
      go_roundw
      case rel => exact ⟨k + 1, by omega, by go_num, by rw [WS.out, ← Nat.add_assoc, ← HSS.out]; go_num, HB.out.trans ((Below.refl _ _).alloc HB.out.size _)⟩
      case measure => simp [intOf]; omega
    · have HE := hide (show (txs op).take k = txs op from List.take_of_length_le (by rw [txs_len]; omega))
      clear hb
      go_wp2
      go_ret
      exact ⟨by rw [HE.out]; rfl, B0.out.trans (HB.out.mono B0.out.size)⟩
/-- the three cells of a leader -/
def LdAt (w : World) (b : Nat) (last : Int) (S O : Value) : Prop := w.cell? ⟨b, 0, none⟩ = some (.int .i64 last) ∧ w.cell? ⟨b, 1, none⟩ = some S ∧ w.cell? ⟨b, 2, none⟩ = some O
theorem LdAt.below {w w' : World} {b B : Nat} {last : Int} {S O : Value} (h : LdAt w b last S O) (hb : Below B w w') (hB : b < B) : LdAt w' b last S O :=
  ⟨(hb.cell (p := ⟨b, 0, none⟩) hB).trans h.1, (hb.cell (p := ⟨b, 1, none⟩) hB).trans h.2.1, (hb.cell (p := ⟨b, 2, none⟩) hB).trans h.2.2⟩
theorem LdAt.new {w : World} {t : TypeId} {last : Int} {S O : Value} : LdAt (w.alloc (.cells #[.int .i64 last, S, O] t)) w.heap.size last S O := by
  refine ⟨?_, ?_, ?_⟩ <;> (rw [cell_at _ _ _ _ _ rfl]; rfl)
theorem leadB_eq (last : Int) (st : List Ver) (op : List Tx) : leadB last st op = (validB st && btw last 0 3000000000000000 && decide (op.length ≤ 2000) && decide (st.length + wlen op ≤ 4000) && chainB (maxTs st) op && decide (lastTs (maxTs st) op ≤ last)) := rfl
theorem maxTs_snoc (l : List Ver) (v : Ver) : maxTs (l ++ [v]) = max (maxTs l) v.ts := by simp [maxTs]
set_option maxHeartbeats 8000000 in
set_option maxRecDepth 100000 in
theorem leadValid_any (last : Int) (SA : Option Addr) (sc : Nat) (st : List Ver) (OA : Option Addr) (oc : Nat) (op : List TxV) (w : World) (hs : Small (txs op)) (hsn : st.length ≤ 1000000) (hS : VS w SA st) (h : TS w OA op) :
    Calls Try.prog 16 #[.agg #[.int .i64 last, .slice SA st.length sc, .slice OA op.length oc]] w fun e w' => e = .returned (.bool (leadB last st (txs op))) ∧ Below w.heap.size w w' := by
  have hl : op.length ≤ 2000 := by have := hs.len; rw [txs_len] at this; exact this
  have SE := hide (fun t (ht : t ∈ txs op) => hs.each t ht)
  have BT := hide between_any
  have ld := fun wr (hb : Below (w.alloc (.cells #[.int .i64 last, .slice SA st.length sc, .slice OA op.length oc] 25)).heap.size (w.alloc (.cells #[.int .i64 last, .slice SA st.length sc, .slice OA op.length oc] 25)) wr) => (LdAt.new (w := w) (t := 25) (last := last) (S := .slice SA st.length sc) (O := .slice OA op.length oc)).below hb (by simp)
  have LD := hide ld
  have HS := hide hS
  have HT := hide h
  have V1 := hide fun W (s : VS W SA st) => valid_any SA sc st W (by omega) s
  have Z1 := hide fun W (s : TS W OA op) => size_any last SA st.length sc OA oc op W hs hsn s
  obtain ⟨z, hz⟩ : ∃ z, z = st.length + wlen (txs op) := ⟨_, rfl⟩
  have LE := hide (leadB_eq last st (txs op))
  rw [← hz] at Z1 LE
  rw [txs_len] at LE
  have B0 := hide ((Below.refl w.heap.size w).alloc (Nat.le_refl _) (.cells #[.int .i64 last, .slice SA st.length sc, .slice OA op.length oc] 25))
  have g0 : decide (2000 < (op.length : Int)) = false := decide_eq_false (by omega)
  have g1 : decide (2000 < op.length) = false := decide_eq_false (by omega)
  have hcase : validB st = false ∨ validB st = true ∧ (btw last 0 3000000000000000 = false ∨ btw last 0 3000000000000000 = true ∧ (decide (4000 < (z : Int)) = true ∧ decide (4000 < z) = true ∧ 4000 < z ∨ decide (4000 < (z : Int)) = false ∧ decide (4000 < z) = false ∧ z ≤ 4000)) := by
    cases validB st <;> cases btw last 0 3000000000000000 <;> simp <;> omega
  clear ld hS h hz hs
  rcases hcase with q1 | ⟨q1, q2 | ⟨q2, ⟨q3, q4, q5⟩ | ⟨q3, q4, q5⟩⟩⟩
  · have HF := hide (show leadB last st (txs op) = false by rw [LE.out, q1]; rfl)
    rw [q1] at V1
    clear q1
    go_enter Try.func16, Try.ntmps16
    go_wp2_with (first
      | (go_at_call 54; refine (V1.out _ (HS.out.below B0.out (Nat.le_refl _))).mono ?_; rintro e w1 ⟨rfl, h1⟩; have BB := hide (thenB B0.out h1); clear h1))
    go_ret
    exact ⟨by rw [HF.out]; rfl, BB.out⟩
  · have HF := hide (show leadB last st (txs op) = false by rw [LE.out, q1, q2]; rfl)
    rw [q1] at V1
    clear q1
    go_enter Try.func16, Try.ntmps16
    go_wp2_with (first
      | (go_at_call 54; refine (V1.out _ (HS.out.below B0.out (Nat.le_refl _))).mono ?_; rintro e w1 ⟨rfl, h1⟩; have BL := hide ((Below.refl _ _).trans h1); have BB := hide (thenB B0.out h1); have l1 := LD.out _ h1; unfold LdAt at l1; clear h1)
      | (go_at_call 55; refine (BT.out _ _ _ _).mono ?_; rintro e w5 ⟨rfl, rfl⟩)
      | (go_at_call 48; refine (Z1.out _ (HT.out.then_ BB.out)).mono ?_; rintro e w2 ⟨rfl, h2⟩; have BL := hide (BL.out.trans (h2.mono BL.out.size)); have BB := hide (thenB BB.out h2); have l2 := LD.out _ BL.out; unfold LdAt at l2; clear l1 h2))
    go_ret
    exact ⟨by rw [HF.out]; rfl, BB.out⟩
  · have HF := hide (show leadB last st (txs op) = false by rw [LE.out, q1, q2, decide_eq_false (show ¬z ≤ 4000 by omega)]; simp)
    rw [q1] at V1
    clear q1 q5
    go_enter Try.func16, Try.ntmps16
    go_wp2_with (first
      | (go_at_call 54; refine (V1.out _ (HS.out.below B0.out (Nat.le_refl _))).mono ?_; rintro e w1 ⟨rfl, h1⟩; have BL := hide ((Below.refl _ _).trans h1); have BB := hide (thenB B0.out h1); have l1 := LD.out _ h1; unfold LdAt at l1; clear h1)
      | (go_at_call 55; refine (BT.out _ _ _ _).mono ?_; rintro e w5 ⟨rfl, rfl⟩)
      | (go_at_call 48; refine (Z1.out _ (HT.out.then_ BB.out)).mono ?_; rintro e w2 ⟨rfl, h2⟩; have BL := hide (BL.out.trans (h2.mono BL.out.size)); have BB := hide (thenB BB.out h2); have l2 := LD.out _ BL.out; unfold LdAt at l2; clear l1 h2))
    go_ret
    exact ⟨by rw [HF.out]; rfl, BB.out⟩
  · have LF := hide (show leadB last st (txs op) = (chainB (maxTs st) (txs op) && decide (lastTs (maxTs st) (txs op) ≤ last)) by rw [LE.out, q1, q2, decide_eq_true q5, decide_eq_true hl]; rfl)
    rw [q1] at V1
    clear q1 q5
    go_enter Try.func16, Try.ntmps16
    go_wp2_with (first
      | (go_at_call 54; refine (V1.out _ (HS.out.below B0.out (Nat.le_refl _))).mono ?_; rintro e w1 ⟨rfl, h1⟩; have BL := hide ((Below.refl _ _).trans h1); have BB := hide (thenB B0.out h1); have l1 := LD.out _ h1; unfold LdAt at l1; clear h1)
      | (go_at_call 55; refine (BT.out _ _ _ _).mono ?_; rintro e w5 ⟨rfl, rfl⟩)
      | (go_at_call 48; refine (Z1.out _ (HT.out.then_ BB.out)).mono ?_; rintro e w2 ⟨rfl, h2⟩; have BL := hide (BL.out.trans (h2.mono BL.out.size)); have BB := hide (thenB BB.out h2); have l2 := LD.out _ BL.out; unfold LdAt at l2; clear l1 h2))
    clear l2
    go_loopw [3, 5, 32] (fun m _ i wr => ∃ k : Nat, k ≤ st.length ∧ i = .int .i64 k ∧ m = .int .i64 (maxTs (st.take k)) ∧ Below w2.heap.size w2 wr) (fun _ _ i _ => st.length - (intOf i).toNat)
    case atStart => exact ⟨0, Nat.zero_le _, rfl, rfl, Below.refl _ _⟩
    case round =>
      obtain ⟨k, hk, rfl, rfl, hb⟩ := hrel
      have HB := hide hb
      by_cases hlt : k < st.length
      · obtain ⟨b, o, rfl, hbl, hc⟩ := ((HS.out.then_ BB.out).then_ hb).at_ hlt
        have c0 := hc k hlt
        have MS := hide (show maxTs (st.take (k + 1)) = max (maxTs (st.take k)) st[k].ts by rw [take_snoc hlt, maxTs_snoc])
        obtain ⟨m, hm⟩ : ∃ m, m = maxTs (st.take k) := ⟨_, rfl⟩
        rw [← hm] at MS ⊢
        obtain ⟨s, hs⟩ : ∃ s, s = st[k] := ⟨_, rfl⟩
        rw [← hs] at MS c0
        unfold VAt at c0
        clear hc hb hm hs
        go_wp2
        go_roundw
        case rel => exact ⟨k + 1, by omega, by go_num, by rw [MS.out]; first | rfl | (congr 1; split <;> omega) | (congr 1; omega), HB.out.trans ((Below.refl _ _).alloc HB.out.size _)⟩
        case measure => simp [intOf]; omega
      · have ME := hide (show maxTs (st.take k) = maxTs st by rw [List.take_of_length_le (by omega)])
        obtain ⟨M, hM⟩ : ∃ M, M = maxTs st := ⟨_, rfl⟩
        rw [← hM] at LF ME
        have l3 := LD.out _ (BL.out.trans (hb.mono BL.out.size))
        unfold LdAt at l3
        rw [ME.out]
        have TT := hide ((HT.out.then_ BB.out).then_ hb)
        have BX := hide (thenB BB.out hb)
        have BL := hide (BL.out.trans (hb.mono BL.out.size))
        clear hb HB hM ME
        go_wp2_with fail
        clear l3
        rename World => w3
        go_loopw [3, 7, 44] (fun m _ i wr => ∃ k : Nat, k ≤ op.length ∧ i = .int .i64 k ∧ m = .int .i64 (lastTs M ((txs op).take k)) ∧ chainB M ((txs op).take k) = true ∧ Below w3.heap.size w3 wr) (fun _ _ i _ => op.length - (intOf i).toNat)
        case atStart => exact ⟨0, Nat.zero_le _, rfl, rfl, rfl, Below.refl _ _⟩
        case round =>
          clear hlt hk
          obtain ⟨k, hk, rfl, rfl, hch, hb⟩ := hrel
          have HB := hide hb
          have HC := hide hch
          clear hch
          by_cases hlt : k < op.length
          · obtain ⟨b, o, rfl, hbl, hc⟩ := (TT.out.then_ hb).at_ hlt
            have c0 := (hc k hlt).1
            have TW := hide (hc k hlt).2
            have hlt' : k < (txs op).length := by rw [txs_len]; exact hlt
            have CN0 := hide (fun h => @chain_no M (txs op) k hlt' h)
            have CS := hide (show chainB M ((txs op).take (k + 1)) = (chainB M ((txs op).take k) && (formB op[k].t && decide (lastTs M ((txs op).take k) < op[k].t.ts))) by rw [take_snoc hlt', chainB_snoc, txs_get hlt])
            have LS := hide (show lastTs M ((txs op).take (k + 1)) = op[k].t.ts by rw [take_snoc hlt', lastTs_snoc, txs_get hlt])
            have FO0 := fun W (s : TxW W op[k]) => formed_any op[k] W (SE.out _ (List.mem_map.2 ⟨op[k], List.getElem_mem _, rfl⟩)) s
            obtain ⟨v, hv⟩ : ∃ v, v = op[k] := ⟨_, rfl⟩
            have CN := hide (fun (h : (formB v.t && decide (lastTs M ((txs op).take k) < v.t.ts)) = false) => CN0.out (by rw [txs_get hlt, ← hv]; exact h))
            rw [← hv] at c0 TW CS LS FO0
            rw [HC.out, Bool.true_and] at CS
            have FO := hide FO0
            obtain ⟨m, hm⟩ : ∃ m, m = lastTs M ((txs op).take k) := ⟨_, rfl⟩
            rw [← hm] at CN CS ⊢
            unfold TxAt at c0
            clear hc hb hv hm CN0 hlt' FO0
            cases hq : formB v.t
            · have HF := hide (show leadB last st (txs op) = false by rw [LF.out, CN.out (by rw [hq]; rfl)]; rfl)
              rw [hq] at FO
              clear hq
              go_wp2_with (go_at_call 44; refine (FO.out _ (TW.out.then_ ((Below.refl _ _).alloc (Nat.le_refl _) _))).mono ?_; rintro e w5 ⟨rfl, h5⟩; have H5 := hide (HB.out.trans (((Below.refl wr.heap.size wr).alloc (Nat.le_refl _) _).trans (h5.mono (by simp)) |>.mono HB.out.size)); clear h5)
              go_ret
              exact ⟨by rw [HF.out]; rfl, thenB BX.out H5.out⟩
            · by_cases hts : v.t.ts ≤ m
              · have d1 : decide (v.t.ts ≤ m) = true := decide_eq_true hts
                have HF := hide (show leadB last st (txs op) = false by rw [LF.out, CN.out (by rw [hq, decide_eq_false (show ¬m < v.t.ts by omega)]; rfl)]; rfl)
                rw [hq] at FO
                clear hq hts
                go_wp2_with (go_at_call 44; refine (FO.out _ (TW.out.then_ ((Below.refl _ _).alloc (Nat.le_refl _) _))).mono ?_; rintro e w5 ⟨rfl, h5⟩; have n5 := (TxAt.new (w := wr) (s := v) (t := 29)).below h5 (by simp); unfold TxAt at n5; have H5 := hide (HB.out.trans (((Below.refl wr.heap.size wr).alloc (Nat.le_refl _) _).trans (h5.mono (by simp)) |>.mono HB.out.size)); clear h5)
                go_ret
                exact ⟨by rw [HF.out]; rfl, thenB BX.out H5.out⟩
              · have d1 : decide (v.t.ts ≤ m) = false := decide_eq_false hts
                have CT := hide (show chainB M ((txs op).take (k + 1)) = true by rw [CS.out, hq, decide_eq_true (show m < v.t.ts by omega)]; rfl)
                rw [hq] at FO
                clear hq hts
                go_wp2_with (go_at_call 44; refine (FO.out _ (TW.out.then_ ((Below.refl _ _).alloc (Nat.le_refl _) _))).mono ?_; rintro e w5 ⟨rfl, h5⟩; have n5 := (TxAt.new (w := wr) (s := v) (t := 29)).below h5 (by simp); unfold TxAt at n5; have H5 := hide (HB.out.trans (((Below.refl wr.heap.size wr).alloc (Nat.le_refl _) _).trans (h5.mono (by simp)) |>.mono HB.out.size)); clear h5)
                go_roundw
                case rel => exact ⟨k + 1, by omega, by go_num, by rw [LS.out], CT.out, H5.out⟩
                case measure => simp [intOf]; omega
          · have CE := hide (show (txs op).take k = txs op from List.take_of_length_le (by rw [txs_len]; omega))
            have l4 := LD.out _ (BL.out.trans (hb.mono BL.out.size))
            unfold LdAt at l4
            have HF := hide (show leadB last st (txs op) = decide (lastTs M (txs op) ≤ last) by rw [LF.out, ← CE.out, HC.out, Bool.true_and])
            rw [CE.out]
            clear hb
            go_wp2
            go_ret
            exact ⟨by rw [HF.out]; rfl, thenB BX.out HB.out⟩
end Go.Proofs.Ytficjpfhakggmaa
