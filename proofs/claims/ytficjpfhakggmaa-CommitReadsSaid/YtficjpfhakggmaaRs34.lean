/-
  The walk of the reference's Show.
-/
import Derived.Test.YtficjpfhakggmaaRw34
import Derived.Test.YtficjpfhakggmaaRf34
namespace Go.Proofs.Ytficjpfhakggmaa
open Go.RowKit
theorem sh_keep2 {w w' : World} {t u z : TypeId} {L : LdV} {lo hi : Int} (hb : Below (((w.alloc (.cells #[.int .i64 L.last, .slice L.sa L.st.length L.sc, .slice L.oa L.op.length L.oc] t)).alloc (.cells #[.int .i64 lo, .int .i64 hi] u)).alloc (.cells #[.int .i64 0, .slice none 0 0, .slice none 0 0] z)).heap.size (((w.alloc (.cells #[.int .i64 L.last, .slice L.sa L.st.length L.sc, .slice L.oa L.op.length L.oc] t)).alloc (.cells #[.int .i64 lo, .int .i64 hi] u)).alloc (.cells #[.int .i64 0, .slice none 0 0, .slice none 0 0] z)) w') :
    Blk w' w.heap.size t #[.int .i64 L.last, .slice L.sa L.st.length L.sc, .slice L.oa L.op.length L.oc] ∧ Blk w' (w.heap.size + 1) u #[.int .i64 lo, .int .i64 hi] ∧ Blk w' (w.heap.size + 2) z #[.int .i64 0, .slice none 0 0, .slice none 0 0] ∧ Below w.heap.size w w' := by
  obtain ⟨_, _, _, a4, a5⟩ := @sh_keep w w' t u z L lo hi hb
  refine ⟨?_, ?_, a5, a4⟩
  · exact (((Blk.new w t _).alloc (.cells #[.int .i64 lo, .int .i64 hi] u)).alloc (.cells #[.int .i64 0, .slice none 0 0, .slice none 0 0] z)).below hb (by simp; omega)
  · have h := ((Blk.new (w.alloc (.cells #[.int .i64 L.last, .slice L.sa L.st.length L.sc, .slice L.oa L.op.length L.oc] t)) u #[.int .i64 lo, .int .i64 hi]).alloc (.cells #[.int .i64 0, .slice none 0 0, .slice none 0 0] z)).below hb (by simp)
    simpa using h
theorem show_out {w w3 : World} {L : LdV} {t z : TypeId} {A1 A8 : Option Addr} {c8 i : Nat} {s1 : List Ver} {R : LD × List Tx × Int}
    (hb : Below w.heap.size w w3) (kb : Blk w3 w.heap.size t #[.int .i64 L.last, .slice A8 s1.length c8, .slice L.oa L.op.length L.oc]) (kq : Blk w3 (w.heap.size + 2) z #[.int .i64 0, .slice none 0 0, .slice none 0 0])
    (s : VS w3 A8 s1) (o : TS w3 L.oa L.op) (o1 : TS w3 A1 (L.op.drop i)) (h8 : s1.length ≤ c8) (m8 : c8 ≤ maxLen) (hi : i ≤ L.op.length) (hc : L.op.length ≤ L.oc) (hm : L.oc ≤ maxLen)
    (hR : R = (⟨L.last, s1, (txs L.op).drop i⟩, (txs L.op).take i, 0)) (m d : Nat) (em : m = L.op.length - i) (ed : d = L.oc - i) :
    Blk ((((w3.setCell ⟨w.heap.size, 2, none⟩ (.slice A1 m d)).setCell ⟨w.heap.size + 1 + 1, 0, none⟩ (.int .i64 L.last)).setCell ⟨w.heap.size + 1 + 1, 1, none⟩ (.slice A8 s1.length c8)).setCell ⟨w.heap.size + 1 + 1, 2, none⟩ (.slice A1 m d)) (w.heap.size + 2) z #[.int .i64 L.last, .slice A8 s1.length c8, .slice A1 m d] ∧
    ∃ M A c l, Ending.returned (.tuple #[.agg #[.int .i64 L.last, .slice A8 s1.length c8, .slice A1 m d], .slice L.oa i L.oc, .int .i64 0]) = Ending.returned (.tuple #[LdV.agg M, .slice A l.length c, .int .i64 R.2.2]) ∧ M.d = R.1 ∧ txs l = R.2.1 ∧
      LdW ((((w3.setCell ⟨w.heap.size, 2, none⟩ (.slice A1 m d)).setCell ⟨w.heap.size + 1 + 1, 0, none⟩ (.int .i64 L.last)).setCell ⟨w.heap.size + 1 + 1, 1, none⟩ (.slice A8 s1.length c8)).setCell ⟨w.heap.size + 1 + 1, 2, none⟩ (.slice A1 m d)) M ∧
      TS ((((w3.setCell ⟨w.heap.size, 2, none⟩ (.slice A1 m d)).setCell ⟨w.heap.size + 1 + 1, 0, none⟩ (.int .i64 L.last)).setCell ⟨w.heap.size + 1 + 1, 1, none⟩ (.slice A8 s1.length c8)).setCell ⟨w.heap.size + 1 + 1, 2, none⟩ (.slice A1 m d)) A l ∧ l.length ≤ c ∧ c ≤ maxLen ∧
      Below w.heap.size w ((((w3.setCell ⟨w.heap.size, 2, none⟩ (.slice A1 m d)).setCell ⟨w.heap.size + 1 + 1, 0, none⟩ (.int .i64 L.last)).setCell ⟨w.heap.size + 1 + 1, 1, none⟩ (.slice A8 s1.length c8)).setCell ⟨w.heap.size + 1 + 1, 2, none⟩ (.slice A1 m d)) := by
  subst hR em ed
  obtain ⟨V1, h1⟩ : ∃ V1, V1 = w3.setCell ⟨w.heap.size, 2, none⟩ (.slice A1 (L.op.length - i) (L.oc - i)) := ⟨_, rfl⟩
  have e1 : w3.heap.size ≤ V1.heap.size ∧ ∀ k, k ≠ w.heap.size → V1.heap[k]? = w3.heap[k]? := by
    rw [h1]; exact ⟨by simp [World.setCell], fun k hk => Below.heap_setCell _ ⟨w.heap.size, 2, none⟩ _ k hk⟩
  have q1 : Blk V1 (w.heap.size + 2) z #[.int .i64 0, .slice none 0 0, .slice none 0 0] := by
    rw [h1]; exact kq.far (p := ⟨w.heap.size, 2, none⟩) (by show w.heap.size + 2 ≠ w.heap.size; omega) _
  have b1 : Below w.heap.size w V1 := by rw [h1]; exact hb.setCell (p := ⟨w.heap.size, 2, none⟩) (Nat.le_refl _) _
  rw [← h1]
  have hf := set3_far V1 (w.heap.size + 1 + 1) (.int .i64 L.last) (.slice A8 s1.length c8) (.slice A1 (L.op.length - i) (L.oc - i))
  have G8 := VS.off (VS.off s kb e1.1 e1.2) q1 hf.1 hf.2
  have G0 := TS.off (TS.off o kb e1.1 e1.2) q1 hf.1 hf.2
  have G1 := TS.off (TS.off o1 kb e1.1 e1.2) q1 hf.1 hf.2
  refine ⟨((q1.set_ 0 _).set_ 1 _).set_ 2 _, ⟨L.last, A8, c8, s1, A1, L.oc - i, L.op.drop i⟩, L.oa, L.oc, L.op.take i, ?_, ?_, ?_, ⟨G8, G1, h8, m8, ?_, ?_⟩, G0.pre i, ?_, hm, set3 b1 (by omega)⟩
  · simp only [LdV.agg, List.length_drop, List.length_take, Nat.min_eq_left hi]
  · simp only [LdV.d, txs_drop]
  · exact txs_take _ _
  · simp only [List.length_drop]; omega
  · dsimp only; omega
  · simp only [List.length_take]; omega
set_option maxHeartbeats 16000000 in
set_option maxRecDepth 100000 in
theorem rShow_any (L : LdV) (lo hi : Int) (w : World) (hs : LdS L) (h : LdW w L) :
    Calls Try.prog 21 #[.agg #[.int .i64 L.last, .slice L.sa L.st.length L.sc, .slice L.oa L.op.length L.oc], .agg #[.int .i64 lo, .int .i64 hi]] w (RetLTE w (showS L.d lo hi)) := by
  have V := hide fun W (s : LdW W L) => rlv_any L W hs s
  have I := hide fun W => rIv_any lo hi W
  have HL := hide h
  have HS := hide hs
  have b3 := hide (((((Below.refl w.heap.size w).alloc (Nat.le_refl _) (.cells #[.int .i64 L.last, .slice L.sa L.st.length L.sc, .slice L.oa L.op.length L.oc] 25)).alloc (by simp) (.cells #[.int .i64 lo, .int .i64 hi] 31)).alloc (by simp; omega) (.cells #[.int .i64 0, .slice none 0 0, .slice none 0 0] 25)))
  have K := hide fun W hb => @sh_keep2 w W 25 31 25 L lo hi hb
  have RC : L.ok = false ∧ showS L.d lo hi = (LD.zero, [], 1) ∨ L.ok = true ∧ (ivB lo hi = false ∧ showS L.d lo hi = (LD.zero, [], 1) ∨ ivB lo hi = true ∧ showS L.d lo hi = (⟨L.last, stAt L.st (txs L.op) (pastN (txs L.op) lo) 0, (txs L.op).drop (pastN (txs L.op) lo)⟩, (txs L.op).take (pastN (txs L.op) lo), 0)) := by
    have e : leadB L.d.last L.d.st L.d.op = L.ok := rfl
    unfold showS
    rw [e]
    cases L.ok <;> cases ivB lo hi <;> simp [LdV.d]
  unfold RetLTE
  clear h hs
  have CALLS : True := trivial
  rcases RC with ⟨q1, hr⟩ | ⟨q1, ⟨q2, hr⟩ | ⟨q2, hr⟩⟩
  · have HP := hide hr
    rw [q1] at V
    clear hr
    cases hi2 : ivB lo hi
    all_goals
      rw [hi2] at I
      clear hi2
      go_enter Try.func21, Try.ntmps21
      go_wp2_with (first
        | (go_at_call 17; refine (V.out _ (HL.out.then_ b3.out)).mono ?_; rintro e w1 ⟨rfl, hb⟩; obtain ⟨k1, k2, kq, k4⟩ := K.out _ hb; have HB := hide hb; clear hb; have kc := kq.cell; have kf := kq.frozen; have i0 := k2.cell)
        | (go_at_call 29; refine (I.out _).mono ?_; rintro e w2 ⟨rfl, hb⟩; clear k1 k2 k4 kc kf kq i0; obtain ⟨k1, k2, kq, k4⟩ := K.out _ (HB.out.trans (hb.mono HB.out.size)); have hb2 := HB.out.trans (hb.mono HB.out.size); clear HB hb; have HB := hide hb2; clear hb2; have kc := kq.cell; have kf := kq.frozen))
      refine bodyPost_ret (results_blk3 rfl _ _ (w.heap.size + 2) 25 _ _ rfl (((kq.set_ 0 _).set_ 1 _).set_ 2 _) Try.underlying25 rfl (by kernel_rfl)) rfl ⟨LdV.zero, none, 0, [], by rw [HP.out]; rfl, by rw [HP.out]; rfl, by rw [HP.out]; rfl, LdW.zero _, TS.nil, Nat.le_refl _, by simp [maxLen], set3 k4 (by omega)⟩
  · have HP := hide hr
    rw [q1] at V
    rw [q2] at I
    clear hr
    go_enter Try.func21, Try.ntmps21
    go_wp2_with (first
      | (go_at_call 17; refine (V.out _ (HL.out.then_ b3.out)).mono ?_; rintro e w1 ⟨rfl, hb⟩; obtain ⟨k1, k2, kq, k4⟩ := K.out _ hb; have HB := hide hb; clear hb; have kc := kq.cell; have kf := kq.frozen; have i0 := k2.cell)
      | (go_at_call 29; refine (I.out _).mono ?_; rintro e w2 ⟨rfl, hb⟩; clear k1 k2 k4 kc kf kq i0; obtain ⟨k1, k2, kq, k4⟩ := K.out _ (HB.out.trans (hb.mono HB.out.size)); have hb2 := HB.out.trans (hb.mono HB.out.size); clear HB hb; have HB := hide hb2; clear hb2; have kc := kq.cell; have kf := kq.frozen))
    refine bodyPost_ret (results_blk3 rfl _ _ (w.heap.size + 2) 25 _ _ rfl (((kq.set_ 0 _).set_ 1 _).set_ 2 _) Try.underlying25 rfl (by kernel_rfl)) rfl ⟨LdV.zero, none, 0, [], by rw [HP.out]; rfl, by rw [HP.out]; rfl, by rw [HP.out]; rfl, LdW.zero _, TS.nil, Nat.le_refl _, by simp [maxLen], set3 k4 (by omega)⟩
  · have HP := hide hr
    rw [q1] at V
    rw [q2] at I
    have hple := pastN_le (txs L.op) lo
    rw [txs_len] at hple
    have q1' : leadB L.last L.st (txs L.op) = true := q1
    have STN := hide fun (i : Nat) (t : Tx) (ht : (txs L.op)[i]? = some t) (j : Nat) (hj : j < (verT t).length) => stAt_next' q1' ht hj
    have STL := hide fun (i j : Nat) (hi : i < (txs L.op).length) => stAt_len q1' (i := i) (j := j) hi
    have LOF := hide fun (i : Nat) (hi : i < L.op.length) (h : i < pastN (txs L.op) lo) => (txs_get hi ▸ pastN_lo (l := txs L.op) (a := lo) (i := i) (by rw [txs_len]; exact hi) h : L.op[i].t.ts < lo)
    have HIF := hide (show ∀ v, L.op[pastN (txs L.op) lo]? = some v → lo ≤ v.t.ts from fun v hv => by
      obtain ⟨hi, rfl⟩ := List.getElem?_eq_some_iff.1 hv
      exact txs_get hi ▸ pastN_hi (ok_chain q1).1 (a := lo) (i := pastN (txs L.op) lo) (by rw [txs_len]; exact hi) (Nat.le_refl _))
    obtain ⟨N, hN⟩ : ∃ N, N = pastN (txs L.op) lo := ⟨_, rfl⟩
    simp only [← hN] at hple HP LOF HIF
    have hlo := (ok_chain q1).2
    have hst := (lead_adds q1').1.len
    have hNc : N ≤ L.oc := Nat.le_trans hple HL.out.ol
    have hom := HL.out.om
    simp only [maxLen] at hom
    clear hN q1 q1' hr
    go_enter Try.func21, Try.ntmps21
    go_wp2_with (first
      | (go_at_call 17; refine (V.out _ (HL.out.then_ b3.out)).mono ?_; rintro e w1 ⟨rfl, hb⟩; obtain ⟨k1, k2, kq, k4⟩ := K.out _ hb; have HB := hide hb; clear hb; have i0 := k2.cell)
      | (go_at_call 29; refine (I.out _).mono ?_; rintro e w2 ⟨rfl, hb⟩; clear k1 k2 k4 kq i0; obtain ⟨k1, k2, kq, k4⟩ := K.out _ (HB.out.trans (hb.mono HB.out.size)); clear HB hb))
    have HB2 := hide k4
    have K1 := hide k1
    have K2 := hide k2
    have KQ := hide kq
    clear k1 k2 k4 kq
    go_loopw [9] (fun u9 wr => ∃ (i : Nat) (A8 : Option Addr) (c8 : Nat), i ≤ N ∧ u9 = .int .i64 i ∧ Blk wr w.heap.size 25 #[.int .i64 L.last, .slice A8 (stAt L.st (txs L.op) i 0).length c8, .slice L.oa L.op.length L.oc] ∧ (stAt L.st (txs L.op) i 0).length ≤ c8 ∧ c8 ≤ maxLen ∧ VS wr A8 (stAt L.st (txs L.op) i 0) ∧ Blk wr (w.heap.size + 1) 31 #[.int .i64 lo, .int .i64 hi] ∧ Blk wr (w.heap.size + 2) 25 #[.int .i64 0, .slice none 0 0, .slice none 0 0] ∧ Below w.heap.size w wr)
      (fun u9 _ => N - (intOf u9).toNat)
    case atStart => exact ⟨0, L.sa, L.sc, Nat.zero_le _, rfl, K1.out, HL.out.sl, HL.out.sm, HL.out.s.then_ HB2.out, K2.out, KQ.out, HB2.out⟩
    case round =>
      clear K1 K2 KQ HB2
      obtain ⟨i, A8, c8, hiN, rfl, kb, h8, m8, s8, kiv, kq, hbr⟩ := hrel
      have S8 := hide s8
      have HR := hide hbr
      have KB := hide kb
      have KI := hide kiv
      have KQ := hide kq
      have hw2 : w.heap.size + 2 < wr.heap.size := kq.lt
      have hb1 : w.heap.size < wr.heap.size := by omega
      have hb2 : w.heap.size + 1 < wr.heap.size := by omega
      have q2 : ∀ x : Fut wr.heap.size wr, x.v.cell? ⟨w.heap.size, 2, none⟩ = some (.slice L.oa L.op.length L.oc) := fun x => (x.h.cell (p := ⟨w.heap.size, 2, none⟩) hb1).trans (kb.cell 2)
      have q3 : ∀ x : Fut wr.heap.size wr, x.v.cell? ⟨w.heap.size + 1, 0, none⟩ = some (.int .i64 lo) := fun x => (x.h.cell (p := ⟨w.heap.size + 1, 0, none⟩) hb2).trans (kiv.cell 0)
      clear s8 hbr kb kiv kq
      by_cases hlt : i < N
      · have hlt2 : i < L.op.length := by omega
        obtain ⟨b, o', hoa, hb', hc⟩ := (HL.out.o.then_ HR.out).at_ hlt2
        obtain ⟨c0, cw⟩ := hc i hlt2
        have hsm := HS.out.small.each _ (List.mem_map.2 ⟨L.op[i], List.getElem_mem _, rfl⟩)
        have CW := hide cw
        have hi2 : i < (txs L.op).length := by rw [txs_len]; exact hlt2
        have hgi : (txs L.op)[i]? = some L.op[i].t := by rw [List.getElem?_eq_getElem hi2, txs_get hlt2]
        have hlo2 := LOF.out i hlt2 hlt
        obtain ⟨li, hli⟩ : ∃ li, li = L.op[i] := ⟨_, rfl⟩
        rw [← hli] at c0 CW hsm hgi hlo2
        have d0 : decide (li.t.ts < lo) = true := decide_eq_true hlo2
        have hsm2 := hsm.2
        have hvl := verT_len li.t
        have SF := hide (show stAt L.st (txs L.op) i li.t.writes.length = stAt L.st (txs L.op) (i + 1) 0 from hvl ▸ stAt_full' (st := L.st) hgi)
        have WI := hide fun W (s : VS W A8 (stAt L.st (txs L.op) i 0)) (s' : TxW W li) => rWith_any A8 c8 (fun j => stAt L.st (txs L.op) i j) li W hsm2 h8 m8 s s' (fun j hj => STN.out i li.t hgi j hj) (fun j => STL.out i j hi2)
        simp only [SF.out] at WI
        obtain ⟨s1, hs1⟩ : ∃ s, s = stAt L.st (txs L.op) (i + 1) 0 := ⟨_, rfl⟩
        obtain ⟨s0, hs0⟩ : ∃ s, s = stAt L.st (txs L.op) i 0 := ⟨_, rfl⟩
        simp only [← hs1, ← hs0] at WI
        rw [← hs0] at S8 h8 KB
        have H1 := hide hs1
        have hi1 : (i : Int) < L.op.length := by omega
        clear hc cw hsm hli hgi hvl hi2 hlo2 hs1 hs0 SF hsm2
        have t0 := c0.fut hb'
        have C0 := hide c0
        rw [hoa] at q2
        have HOA := hide hoa
        clear hoa
        unfold TxAt at t0
        clear c0
        go_wp2_with fail
        refine wp_region_fut wr.heap.size (by kernel_rfl) (by kernel_rfl) ?_
        repeat (go_big_quiet_step ((first | fail)))
        refine wpQuiet_nil ?_
        intro w3 hq'; have hb3 := Fut.of hq'; clear hq'
        have B3 := hide hb3
        have p1 : w3.cell? ⟨w.heap.size, 1, none⟩ = some (.slice A8 s0.length c8) := (KB.out.below hb3 hb1).cell 1
        have p2 : w3.cell? ⟨w.heap.size, 2, none⟩ = some (.slice (some ⟨b, o', none⟩) L.op.length L.oc) := HOA.out ▸ (KB.out.below hb3 hb1).cell 2
        have c0 := C0.out.below hb3 hb'
        have hb4 : w.heap.size < w3.heap.size := Nat.lt_of_lt_of_le hb1 hb3.size
        unfold TxAt at c0
        clear hb3 t0 q2 q3
        go_wp2_with fail
        go_region_law ((go_simp; go_at_call 61; with_reducible refine (WI.out _ (S8.out.then_ (B3.out.drew)) (CW.out.then_ (B3.out.drew))).mono ?_; rintro e w7 ⟨A7, c7, rfl, hb7, h7, m7, s7⟩; have B7 := hide (thenB (thenB B3.out (Below.refl w3.heap.size w3).drew) hb7); clear hb7; have S7 := hide s7; clear s7; have PB := hide (KB.out.below B7.out hb1); have k1 := PB.out.cell 1; have f1 := PB.out.frozen 1))
        all_goals
          have P9 := hide (PB.out.set_ 1 (.slice A7 s1.length c7))
          have hk9 : ∀ k, k ≠ w.heap.size → (w7.setCell ⟨w.heap.size, 1, none⟩ (.slice A7 s1.length c7)).heap[k]? = w7.heap[k]? := fun k hk => Below.heap_setCell _ ⟨w.heap.size, 1, none⟩ _ k hk
          have S9 := hide (VS.off S7.out PB.out (show w7.heap.size ≤ (w7.setCell ⟨w.heap.size, 1, none⟩ (.slice A7 s1.length c7)).heap.size by simp [World.setCell]) hk9)
          have I9 := hide ((KI.out.below B7.out hb2).far (p := ⟨w.heap.size, 1, none⟩) (by show w.heap.size + 1 ≠ w.heap.size; omega) (.slice A7 s1.length c7))
          have Q9 := hide ((KQ.out.below B7.out hw2).far (p := ⟨w.heap.size, 1, none⟩) (by show w.heap.size + 2 ≠ w.heap.size; omega) (.slice A7 s1.length c7))
          have B9 := hide ((HR.out.trans (B7.out.mono HR.out.size)).setCell (p := ⟨w.heap.size, 1, none⟩) (Nat.le_refl _) (.slice A7 s1.length c7))
          obtain ⟨W9, hW9⟩ : ∃ W9, w7.setCell ⟨w.heap.size, 1, none⟩ (.slice A7 s1.length c7) = W9 := ⟨_, rfl⟩
          rw [hW9] at P9 S9 I9 Q9 B9 ⊢
          clear hW9 hk9
          go_wp2
          go_roundw
          case rel => exact ⟨i + 1, A7, c7, by omega, by go_num, by rw [← H1.out]; exact P9.out, by rw [← H1.out]; exact h7, m7, by rw [← H1.out]; exact S9.out, I9.out, Q9.out, B9.out⟩
          case measure => simp [intOf]; omega
      · obtain rfl : i = N := by omega
        obtain ⟨s1, hs1⟩ : ∃ s, s = stAt L.st (txs L.op) i 0 := ⟨_, rfl⟩
        rw [← hs1] at S8 h8 HP KB
        clear hs1
        have sl10 := fun W => slice_suf L.oa L.op.length L.oc i W hple HL.out.ol
        have sl20 := fun W => sliceAt_suf L.oa L.op.length L.oc i W hple HL.out.ol
        have TO := hide (HL.out.o.then_ HR.out)
        have TC0 := fun W (h : TS W L.oa L.op) => TS.cut (i := i) h HL.out.ol
        obtain ⟨A1, hA1⟩ : ∃ A1, A1 = (if L.oc = i then L.oa else Option.map (fun x => x.add (i * 4)) L.oa) := ⟨_, rfl⟩
        simp only [← hA1] at sl10 sl20 TC0
        have TC := hide TC0
        clear TC0
        clear hA1
        have c2 := KB.out.frozen 2
        have c0' : wr.cell? ⟨w.heap.size, 0, none⟩ = some (.int .i64 L.last) := KB.out.cell 0
        have hxx : L.op.length ≤ L.oc := HL.out.ol
        have hcond : i = L.op.length ∨ i < L.op.length := by omega
        rcases hcond with hend | hin
        · subst hend
          have hc0 : decide ((L.op.length : Int) < L.op.length) = false := decide_eq_false (by omega)
          go_wp2_with fail
          refine wp_region_fut wr.heap.size (by kernel_rfl) (by kernel_rfl) ?_
          repeat (go_big_quiet_step ((first | fail)))
          refine wpQuiet_nil ?_
          intro w3 hq'; have hb3 := Fut.of hq'; clear hq'
          have KB3 := hide (KB.out.below hb3 hb1)
          have KQ3 := hide (KQ.out.below hb3 hw2)
          have kc := KB3.out.cell
          have kf := KB3.out.frozen
          have qc := KQ3.out.cell
          have qf := KQ3.out.frozen
          have HR3 := hide (thenB HR.out hb3)
          have hsz := hb3.size
          have S3 := hide (S8.out.then_ hb3)
          have T3 := hide (TO.out.then_ hb3)
          clear hb3 q2 q3
          go_wp2
          have X := show_out (t := 25) (z := 25) (L := L) HR3.out KB3.out KQ3.out S3.out T3.out (TC.out _ T3.out) h8 m8 (by omega) hxx HL.out.om HP.out 0 (L.oc - L.op.length) (by omega) (by omega)
          refine bodyPost_ret (results_blk3 rfl _ _ (w.heap.size + 2) 25 _ _ rfl X.1 Try.underlying25 rfl (by kernel_rfl)) rfl ?_
          exact X.2
        · have hlo2 := HIF.out L.op[i] (List.getElem?_eq_getElem hin)
          obtain ⟨b, o', hoa, hb', hc⟩ := TO.out.at_ hin
          have t0 := (hc i hin).1.fut hb'
          obtain ⟨li, hli⟩ : ∃ li, li = L.op[i] := ⟨_, rfl⟩
          rw [← hli] at t0 hlo2
          have d0 : decide (li.t.ts < lo) = false := decide_eq_false (by omega)
          have hi1 : (i : Int) < L.op.length := by omega
          rw [hoa] at q2
          have HOA := hide hoa
          unfold TxAt at t0
          clear hoa hli hc hlo2
          go_wp2_with fail
          refine wp_region_fut wr.heap.size (by kernel_rfl) (by kernel_rfl) ?_
          repeat (go_big_quiet_step ((first | fail)))
          refine wpQuiet_nil ?_
          intro w3 hq'; have hb3 := Fut.of hq'; clear hq'
          have KB3 := hide (KB.out.below hb3 hb1)
          have KQ3 := hide (KQ.out.below hb3 hw2)
          have kc := KB3.out.cell
          have kf := KB3.out.frozen
          have qc := KQ3.out.cell
          have qf := KQ3.out.frozen
          have HR3 := hide (thenB HR.out hb3)
          have hsz := hb3.size
          have S3 := hide (S8.out.then_ hb3)
          have T3 := hide (TO.out.then_ hb3)
          clear hb3 q2 q3 t0
          go_wp2
          have X := show_out (t := 25) (z := 25) (L := L) HR3.out KB3.out KQ3.out S3.out T3.out (TC.out _ T3.out) h8 m8 (by omega) hxx HL.out.om HP.out (L.op.length - i) (L.oc - i) (by omega) (by omega)
          refine bodyPost_ret (results_blk3 rfl _ _ (w.heap.size + 2) 25 _ _ rfl X.1 Try.underlying25 rfl (by kernel_rfl)) rfl ?_
          exact X.2
end Go.Proofs.Ytficjpfhakggmaa
