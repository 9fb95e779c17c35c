/-
  The walk of Read of the reference implementation of layer 34.
-/
import Derived.Test.YtficjpfhakggmaaRe34
import Derived.Test.YtficjpfhakggmaaRef33c
namespace Go.Proofs.Ytficjpfhakggmaa
open Go.RowKit
theorem pastN_pos {l : List Tx} {a : Int} : 0 < pastN l a ↔ ∃ h : 0 < l.length, l[0].ts < a := by
  unfold pastN
  cases l with
  | nil => simp
  | cons t l =>
    by_cases h : t.ts < a
    · simp [h]
    · simp [h]
set_option maxHeartbeats 16000000 in
set_option maxRecDepth 100000 in
theorem rRead_any (L : LdV) (key ts lo hi : Int) (w : World) (hs : LdS L) (h : LdW w L) :
    Calls Try.prog 24 #[.agg #[.int .i64 L.last, .slice L.sa L.st.length L.sc, .slice L.oa L.op.length L.oc], .int .i64 key, .int .i64 ts, .agg #[.int .i64 lo, .int .i64 hi]] w (RetVBE w (readLS L key ts lo hi)) := by
  have V := hide fun W (s : LdW W L) => rlv_any L W hs s
  have I := hide fun W => rIv_any lo hi W
  have RK := hide rKey_any
  have RS_ := hide rStamp_any
  have HL := hide h
  have HS := hide hs
  have b3 := hide (((((Below.refl w.heap.size w).alloc (Nat.le_refl _) (.cells #[.int .i64 L.last, .slice L.sa L.st.length L.sc, .slice L.oa L.op.length L.oc] 25)).alloc (by simp) (.cells #[.int .i64 lo, .int .i64 hi] 31)).alloc (by simp; omega) (.cells #[.int .i64 0, .int .i64 0, .int .i64 0, .bool false] 44)))
  have K := hide fun W hb => @rd_keep w W 25 31 44 L lo hi hb
  have RC := read_cases L key ts lo hi
  obtain ⟨kb, hkb⟩ : ∃ b, b = btw key 1 1000 := ⟨_, rfl⟩
  obtain ⟨tb, htb⟩ : ∃ b, b = btw ts 1 3000000000000000 := ⟨_, rfl⟩
  have RK1 := hide fun W => (show keyB key = kb from hkb.symm) ▸ RK.out key W
  have RS1 := hide fun W => (show stampB ts = tb from htb.symm) ▸ RS_.out ts W
  have TB := hide (show tb = true → 1 ≤ ts ∧ ts ≤ 3000000000000000 from fun e => btw_t.1 (htb.symm.trans e))
  rw [← hkb, ← htb] at RC
  unfold RetVBE
  clear h hs hkb htb
  rcases RC with ⟨q1, hr⟩ | ⟨q1, ⟨q2, hr⟩ | ⟨q2, ⟨rfl, hr⟩ | ⟨rfl, ⟨rfl, hr⟩ | ⟨rfl, ⟨q5, hr⟩ | ⟨q5, ⟨q6, q7, hr⟩ | ⟨q67, hr⟩⟩⟩⟩⟩⟩
  · have HP := hide hr
    rw [q1] at V
    clear hr
    cases hi2 : ivB lo hi <;> cases kb <;> cases tb
    all_goals
      rw [hi2] at I
      clear hi2
      go_enter Try.func24, Try.ntmps24
      go_wp2_with (first
        | (go_at_call 17; refine (V.out _ (HL.out.then_ b3.out)).mono ?_; rintro e w1 ⟨rfl, hb⟩; obtain ⟨k1, k2, k3, k4, kq⟩ := K.out _ hb; have HB := hide hb; clear hb; have kc := kq.cell; have kf := kq.frozen; unfold LdAt at k1)
        | (go_at_call 29; refine (I.out _).mono ?_; rintro e w2 ⟨rfl, hb⟩; clear k1 k2 k3 k4 kc kf kq; obtain ⟨k1, k2, k3, k4, kq⟩ := K.out _ (HB.out.trans (hb.mono HB.out.size)); have hb2 := HB.out.trans (hb.mono HB.out.size); clear HB hb; have HB := hide hb2; clear hb2; have kc := kq.cell; have kf := kq.frozen; unfold LdAt at k1)
        | (go_at_call 62; refine (RK1.out _).mono ?_; rintro e w3 ⟨rfl, rfl⟩)
        | (go_at_call 63; refine (RS1.out _).mono ?_; rintro e w3 ⟨rfl, rfl⟩))
      refine bodyPost_ret (results_blk3 rfl _ _ (w.heap.size + 2) 44 _ _ rfl ((((kq.set_ 0 _).set_ 1 _).set_ 2 _).set_ 3 _) Try.underlying44 rfl (by kernel_rfl)) rfl ⟨by rw [HP.out]; rfl, set4 k4 (by omega)⟩
  · have HP := hide hr
    rw [q1] at V
    rw [q2] at I
    clear hr
    cases kb <;> cases tb
    all_goals
      go_enter Try.func24, Try.ntmps24
      go_wp2_with (first
        | (go_at_call 17; refine (V.out _ (HL.out.then_ b3.out)).mono ?_; rintro e w1 ⟨rfl, hb⟩; obtain ⟨k1, k2, k3, k4, kq⟩ := K.out _ hb; have HB := hide hb; clear hb; have kc := kq.cell; have kf := kq.frozen; unfold LdAt at k1)
        | (go_at_call 29; refine (I.out _).mono ?_; rintro e w2 ⟨rfl, hb⟩; clear k1 k2 k3 k4 kc kf kq; obtain ⟨k1, k2, k3, k4, kq⟩ := K.out _ (HB.out.trans (hb.mono HB.out.size)); have hb2 := HB.out.trans (hb.mono HB.out.size); clear HB hb; have HB := hide hb2; clear hb2; have kc := kq.cell; have kf := kq.frozen; unfold LdAt at k1)
        | (go_at_call 62; refine (RK1.out _).mono ?_; rintro e w3 ⟨rfl, rfl⟩)
        | (go_at_call 63; refine (RS1.out _).mono ?_; rintro e w3 ⟨rfl, rfl⟩))
      refine bodyPost_ret (results_blk3 rfl _ _ (w.heap.size + 2) 44 _ _ rfl ((((kq.set_ 0 _).set_ 1 _).set_ 2 _).set_ 3 _) Try.underlying44 rfl (by kernel_rfl)) rfl ⟨by rw [HP.out]; rfl, set4 k4 (by omega)⟩
  · have HP := hide hr
    rw [q1] at V
    rw [q2] at I
    clear hr
    cases tb
    all_goals
      go_enter Try.func24, Try.ntmps24
      go_wp2_with (first
        | (go_at_call 17; refine (V.out _ (HL.out.then_ b3.out)).mono ?_; rintro e w1 ⟨rfl, hb⟩; obtain ⟨k1, k2, k3, k4, kq⟩ := K.out _ hb; have HB := hide hb; clear hb; have kc := kq.cell; have kf := kq.frozen; unfold LdAt at k1)
        | (go_at_call 29; refine (I.out _).mono ?_; rintro e w2 ⟨rfl, hb⟩; clear k1 k2 k3 k4 kc kf kq; obtain ⟨k1, k2, k3, k4, kq⟩ := K.out _ (HB.out.trans (hb.mono HB.out.size)); have hb2 := HB.out.trans (hb.mono HB.out.size); clear HB hb; have HB := hide hb2; clear hb2; have kc := kq.cell; have kf := kq.frozen; unfold LdAt at k1)
        | (go_at_call 62; refine (RK1.out _).mono ?_; rintro e w3 ⟨rfl, rfl⟩)
        | (go_at_call 63; refine (RS1.out _).mono ?_; rintro e w3 ⟨rfl, rfl⟩))
      refine bodyPost_ret (results_blk3 rfl _ _ (w.heap.size + 2) 44 _ _ rfl ((((kq.set_ 0 _).set_ 1 _).set_ 2 _).set_ 3 _) Try.underlying44 rfl (by kernel_rfl)) rfl ⟨by rw [HP.out]; rfl, set4 k4 (by omega)⟩
  · have HP := hide hr
    rw [q1] at V
    rw [q2] at I
    clear hr
    go_enter Try.func24, Try.ntmps24
    go_wp2_with (first
      | (go_at_call 17; refine (V.out _ (HL.out.then_ b3.out)).mono ?_; rintro e w1 ⟨rfl, hb⟩; obtain ⟨k1, k2, k3, k4, kq⟩ := K.out _ hb; have HB := hide hb; clear hb; have kc := kq.cell; have kf := kq.frozen; unfold LdAt at k1)
      | (go_at_call 29; refine (I.out _).mono ?_; rintro e w2 ⟨rfl, hb⟩; clear k1 k2 k3 k4 kc kf kq; obtain ⟨k1, k2, k3, k4, kq⟩ := K.out _ (HB.out.trans (hb.mono HB.out.size)); have hb2 := HB.out.trans (hb.mono HB.out.size); clear HB hb; have HB := hide hb2; clear hb2; have kc := kq.cell; have kf := kq.frozen; unfold LdAt at k1)
      | (go_at_call 62; refine (RK1.out _).mono ?_; rintro e w3 ⟨rfl, rfl⟩)
      | (go_at_call 63; refine (RS1.out _).mono ?_; rintro e w3 ⟨rfl, rfl⟩))
    refine bodyPost_ret (results_blk3 rfl _ _ (w.heap.size + 2) 44 _ _ rfl ((((kq.set_ 0 _).set_ 1 _).set_ 2 _).set_ 3 _) Try.underlying44 rfl (by kernel_rfl)) rfl ⟨by rw [HP.out]; rfl, set4 k4 (by omega)⟩
  · have HP := hide hr
    clear hr
    rw [q1] at V
    rw [q2] at I
    obtain ⟨tb1, tb2⟩ := TB.out rfl
    obtain ⟨hz, h0⟩ := pastN_pos.1 q5
    rw [txs_len] at hz
    rw [txs_get hz] at h0
    obtain ⟨b, o, hA, hbl, hc⟩ := HL.out.o.at_ (k := 0) hz
    have c0 := hide (hc 0 hz).1
    have TC := hide fun W (hB : Below w.heap.size w W) => (show TxAt W b (o + 0 * 4) L.op[0] from c0.out.below hB hbl)
    rw [Nat.zero_mul, Nat.add_zero] at TC
    obtain ⟨v0, hv0⟩ : ∃ v, v = L.op[0] := ⟨_, rfl⟩
    rw [← hv0] at TC h0
    have hz2 : decide (0 < (L.op.length : Int)) = true := decide_eq_true (by omega)
    have hz3 : decide (0 < L.op.length) = true := decide_eq_true (by omega)
    have hz4 : (0 : Int) < (L.op.length : Int) := by omega
    rw [hA] at V K b3 ⊢
    clear hc c0 hv0 hA
    have d0 : decide (v0.t.ts ≤ ts) = true := decide_eq_true (by omega)
    clear h0 q5 hz
    go_enter Try.func24, Try.ntmps24
    go_wp2_with (first
      | (go_at_call 17; refine (V.out _ (HL.out.then_ b3.out)).mono ?_; rintro e w1 ⟨rfl, hb⟩; obtain ⟨k1, k2, k3, k4, kq⟩ := K.out _ hb; have HB := hide hb; clear hb; have kc := kq.cell; have kf := kq.frozen; unfold LdAt at k1)
      | (go_at_call 29; refine (I.out _).mono ?_; rintro e w2 ⟨rfl, hb⟩; clear k1 k2 k3 k4 kc kf kq; obtain ⟨k1, k2, k3, k4, kq⟩ := K.out _ (HB.out.trans (hb.mono HB.out.size)); have hb2 := HB.out.trans (hb.mono HB.out.size); clear HB hb; have HB := hide hb2; clear hb2; have kc := kq.cell; have kf := kq.frozen; unfold LdAt at k1; have tc := TC.out _ k4; unfold TxAt at tc)
      | (go_at_call 62; refine (RK1.out _).mono ?_; rintro e w3 ⟨rfl, rfl⟩)
      | (go_at_call 63; refine (RS1.out _).mono ?_; rintro e w3 ⟨rfl, rfl⟩))
    refine bodyPost_ret (results_blk3 rfl _ _ (w.heap.size + 2) 44 _ _ rfl ((((kq.set_ 0 _).set_ 1 _).set_ 2 _).set_ 3 _) Try.underlying44 rfl (by kernel_rfl)) rfl ⟨by rw [HP.out]; rfl, set4 k4 (by omega)⟩
  · have HP := hide hr
    clear hr
    rw [q1] at V
    rw [q2] at I
    obtain ⟨tb1, tb2⟩ := TB.out rfl
    have d6 : decide (L.last < ts) = true := decide_eq_true q6
    have d7 : decide (lo ≤ ts) = true := decide_eq_true q7
    clear q6 q7
    rcases Nat.eq_zero_or_pos L.op.length with hz | hz
    · have hz2 : decide (0 < (L.op.length : Int)) = false := decide_eq_false (by omega)
      have hz3 : decide (0 < L.op.length) = false := decide_eq_false (by omega)
      clear hz q5
      go_enter Try.func24, Try.ntmps24
      go_wp2_with (first
        | (go_at_call 17; refine (V.out _ (HL.out.then_ b3.out)).mono ?_; rintro e w1 ⟨rfl, hb⟩; obtain ⟨k1, k2, k3, k4, kq⟩ := K.out _ hb; have HB := hide hb; clear hb; have kc := kq.cell; have kf := kq.frozen; unfold LdAt at k1)
        | (go_at_call 29; refine (I.out _).mono ?_; rintro e w2 ⟨rfl, hb⟩; clear k1 k2 k3 k4 kc kf kq; obtain ⟨k1, k2, k3, k4, kq⟩ := K.out _ (HB.out.trans (hb.mono HB.out.size)); have hb2 := HB.out.trans (hb.mono HB.out.size); clear HB hb; have HB := hide hb2; clear hb2; have kc := kq.cell; have kf := kq.frozen; unfold LdAt at k1)
        | (go_at_call 62; refine (RK1.out _).mono ?_; rintro e w3 ⟨rfl, rfl⟩)
        | (go_at_call 63; refine (RS1.out _).mono ?_; rintro e w3 ⟨rfl, rfl⟩))
      refine bodyPost_ret (results_blk3 rfl _ _ (w.heap.size + 2) 44 _ _ rfl ((((kq.set_ 0 _).set_ 1 _).set_ 2 _).set_ 3 _) Try.underlying44 rfl (by kernel_rfl)) rfl ⟨by rw [HP.out]; rfl, set4 k4 (by omega)⟩
    · have h0 : ¬L.op[0].t.ts < ts + 1 := fun hh => q5 (pastN_pos.2 ⟨by rw [txs_len]; exact hz, by rw [txs_get hz]; exact hh⟩)
      obtain ⟨b, o, hA, hbl, hc⟩ := HL.out.o.at_ (k := 0) hz
      have c0 := hide (hc 0 hz).1
      have TC := hide fun W (hB : Below w.heap.size w W) => (show TxAt W b (o + 0 * 4) L.op[0] from c0.out.below hB hbl)
      rw [Nat.zero_mul, Nat.add_zero] at TC
      obtain ⟨v0, hv0⟩ : ∃ v, v = L.op[0] := ⟨_, rfl⟩
      rw [← hv0] at TC h0
      have hz2 : decide (0 < (L.op.length : Int)) = true := decide_eq_true (by omega)
      have hz3 : decide (0 < L.op.length) = true := decide_eq_true (by omega)
      have hz4 : (0 : Int) < (L.op.length : Int) := by omega
      rw [hA] at V K b3 ⊢
      clear hc c0 hv0 hA
      have d0 : decide (v0.t.ts ≤ ts) = false := decide_eq_false (by omega)
      clear h0 q5 hz
      go_enter Try.func24, Try.ntmps24
      go_wp2_with (first
        | (go_at_call 17; refine (V.out _ (HL.out.then_ b3.out)).mono ?_; rintro e w1 ⟨rfl, hb⟩; obtain ⟨k1, k2, k3, k4, kq⟩ := K.out _ hb; have HB := hide hb; clear hb; have kc := kq.cell; have kf := kq.frozen; unfold LdAt at k1)
        | (go_at_call 29; refine (I.out _).mono ?_; rintro e w2 ⟨rfl, hb⟩; clear k1 k2 k3 k4 kc kf kq; obtain ⟨k1, k2, k3, k4, kq⟩ := K.out _ (HB.out.trans (hb.mono HB.out.size)); have hb2 := HB.out.trans (hb.mono HB.out.size); clear HB hb; have HB := hide hb2; clear hb2; have kc := kq.cell; have kf := kq.frozen; unfold LdAt at k1; have tc := TC.out _ k4; unfold TxAt at tc)
        | (go_at_call 62; refine (RK1.out _).mono ?_; rintro e w3 ⟨rfl, rfl⟩)
        | (go_at_call 63; refine (RS1.out _).mono ?_; rintro e w3 ⟨rfl, rfl⟩))
      refine bodyPost_ret (results_blk3 rfl _ _ (w.heap.size + 2) 44 _ _ rfl ((((kq.set_ 0 _).set_ 1 _).set_ 2 _).set_ 3 _) Try.underlying44 rfl (by kernel_rfl)) rfl ⟨by rw [HP.out]; rfl, set4 k4 (by omega)⟩
  · have HP := hide hr
    clear hr
    rw [q1] at V
    rw [q2] at I
    obtain ⟨tb1, tb2⟩ := TB.out rfl
    have AT0 := fun W (s : VS W L.sa L.st) => rAt_any L.sa L.sc L.st key ts W (by have := HS.out.st; omega) s
    rw [← atS_eq] at AT0
    obtain ⟨⟨⟨ak, at_, av, ag⟩, ab, ae⟩, ha⟩ : ∃ x, x = atS L.st key ts := ⟨_, rfl⟩
    rw [← ha] at AT0
    have HAT := hide ha.symm
    have AT := hide AT0
    clear AT0 ha
    rcases Nat.eq_zero_or_pos L.op.length with hz | hz
    · have hz2 : decide (0 < (L.op.length : Int)) = false := decide_eq_false (by omega)
      have hz3 : decide (0 < L.op.length) = false := decide_eq_false (by omega)
      clear hz q5
      rcases q67 with q6 | ⟨q6, q7⟩
      · have d6 : decide (L.last < ts) = false := decide_eq_false q6
        clear q6
        go_enter Try.func24, Try.ntmps24
        go_wp2_with (first
          | (go_at_call 17; refine (V.out _ (HL.out.then_ b3.out)).mono ?_; rintro e w1 ⟨rfl, hb⟩; obtain ⟨k1, k2, k3, k4, kq⟩ := K.out _ hb; have HB := hide hb; clear hb; have kc := kq.cell; have kf := kq.frozen; unfold LdAt at k1)
          | (go_at_call 29; refine (I.out _).mono ?_; rintro e w2 ⟨rfl, hb⟩; clear k1 k2 k3 k4 kc kf kq; obtain ⟨k1, k2, k3, k4, kq⟩ := K.out _ (HB.out.trans (hb.mono HB.out.size)); have hb2 := HB.out.trans (hb.mono HB.out.size); clear HB hb; have HB := hide hb2; clear hb2; have kc := kq.cell; have kf := kq.frozen; unfold LdAt at k1)
          | (go_at_call 62; refine (RK1.out _).mono ?_; rintro e w3 ⟨rfl, rfl⟩)
          | (go_at_call 63; refine (RS1.out _).mono ?_; rintro e w3 ⟨rfl, rfl⟩)
          | (go_at_call 64; refine (AT.out _ (HL.out.then_ k4).s).mono ?_; unfold RetVBE; rintro e w5 ⟨rfl, hb⟩; (try clear tc); clear k1 k2 k3 k4 kc kf kq; obtain ⟨k1, k2, k3, k4, kq⟩ := K.out _ (HB.out.trans (hb.mono HB.out.size)); have hb2 := HB.out.trans (hb.mono HB.out.size); clear HB hb; have HB := hide hb2; clear hb2; have kc := kq.cell; have kf := kq.frozen; unfold LdAt at k1; have kl := kq.lt; have ne1 : ¬ w5.heap.size = w.heap.size + 2 := (by omega); have ne2 : ¬ w.heap.size + 2 = w5.heap.size := (by omega)))
        refine bodyPost_ret (results_blk3 rfl _ _ (w.heap.size + 2) 44 _ _ rfl (((((kq.set_ 0 _).set_ 1 _).set_ 2 _).set_ 3 _).alloc _) Try.underlying44 rfl (by kernel_rfl)) rfl ⟨by rw [HP.out, HAT.out]; rfl, (set4 k4 (by omega)).alloc (by simp [World.setCell]; omega) _⟩
      · have d6 : decide (L.last < ts) = true := decide_eq_true q6
        have d7 : decide (lo ≤ ts) = false := decide_eq_false q7
        clear q6 q7
        go_enter Try.func24, Try.ntmps24
        go_wp2_with (first
          | (go_at_call 17; refine (V.out _ (HL.out.then_ b3.out)).mono ?_; rintro e w1 ⟨rfl, hb⟩; obtain ⟨k1, k2, k3, k4, kq⟩ := K.out _ hb; have HB := hide hb; clear hb; have kc := kq.cell; have kf := kq.frozen; unfold LdAt at k1)
          | (go_at_call 29; refine (I.out _).mono ?_; rintro e w2 ⟨rfl, hb⟩; clear k1 k2 k3 k4 kc kf kq; obtain ⟨k1, k2, k3, k4, kq⟩ := K.out _ (HB.out.trans (hb.mono HB.out.size)); have hb2 := HB.out.trans (hb.mono HB.out.size); clear HB hb; have HB := hide hb2; clear hb2; have kc := kq.cell; have kf := kq.frozen; unfold LdAt at k1)
          | (go_at_call 62; refine (RK1.out _).mono ?_; rintro e w3 ⟨rfl, rfl⟩)
          | (go_at_call 63; refine (RS1.out _).mono ?_; rintro e w3 ⟨rfl, rfl⟩)
          | (go_at_call 64; refine (AT.out _ (HL.out.then_ k4).s).mono ?_; unfold RetVBE; rintro e w5 ⟨rfl, hb⟩; (try clear tc); clear k1 k2 k3 k4 kc kf kq; obtain ⟨k1, k2, k3, k4, kq⟩ := K.out _ (HB.out.trans (hb.mono HB.out.size)); have hb2 := HB.out.trans (hb.mono HB.out.size); clear HB hb; have HB := hide hb2; clear hb2; have kc := kq.cell; have kf := kq.frozen; unfold LdAt at k1; have kl := kq.lt; have ne1 : ¬ w5.heap.size = w.heap.size + 2 := (by omega); have ne2 : ¬ w.heap.size + 2 = w5.heap.size := (by omega)))
        refine bodyPost_ret (results_blk3 rfl _ _ (w.heap.size + 2) 44 _ _ rfl (((((kq.set_ 0 _).set_ 1 _).set_ 2 _).set_ 3 _).alloc _) Try.underlying44 rfl (by kernel_rfl)) rfl ⟨by rw [HP.out, HAT.out]; rfl, (set4 k4 (by omega)).alloc (by simp [World.setCell]; omega) _⟩
    · have h0 : ¬L.op[0].t.ts < ts + 1 := fun hh => q5 (pastN_pos.2 ⟨by rw [txs_len]; exact hz, by rw [txs_get hz]; exact hh⟩)
      obtain ⟨b, o, hA, hbl, hc⟩ := HL.out.o.at_ (k := 0) hz
      have c0 := hide (hc 0 hz).1
      have TC := hide fun W (hB : Below w.heap.size w W) => (show TxAt W b (o + 0 * 4) L.op[0] from c0.out.below hB hbl)
      rw [Nat.zero_mul, Nat.add_zero] at TC
      obtain ⟨v0, hv0⟩ : ∃ v, v = L.op[0] := ⟨_, rfl⟩
      rw [← hv0] at TC h0
      have hz2 : decide (0 < (L.op.length : Int)) = true := decide_eq_true (by omega)
      have hz3 : decide (0 < L.op.length) = true := decide_eq_true (by omega)
      have hz4 : (0 : Int) < (L.op.length : Int) := by omega
      rw [hA] at V K b3 ⊢
      clear hc c0 hv0 hA
      have d0 : decide (v0.t.ts ≤ ts) = false := decide_eq_false (by omega)
      clear h0 q5 hz
      rcases q67 with q6 | ⟨q6, q7⟩
      · have d6 : decide (L.last < ts) = false := decide_eq_false q6
        clear q6
        go_enter Try.func24, Try.ntmps24
        go_wp2_with (first
          | (go_at_call 17; refine (V.out _ (HL.out.then_ b3.out)).mono ?_; rintro e w1 ⟨rfl, hb⟩; obtain ⟨k1, k2, k3, k4, kq⟩ := K.out _ hb; have HB := hide hb; clear hb; have kc := kq.cell; have kf := kq.frozen; unfold LdAt at k1)
          | (go_at_call 29; refine (I.out _).mono ?_; rintro e w2 ⟨rfl, hb⟩; clear k1 k2 k3 k4 kc kf kq; obtain ⟨k1, k2, k3, k4, kq⟩ := K.out _ (HB.out.trans (hb.mono HB.out.size)); have hb2 := HB.out.trans (hb.mono HB.out.size); clear HB hb; have HB := hide hb2; clear hb2; have kc := kq.cell; have kf := kq.frozen; unfold LdAt at k1; have tc := TC.out _ k4; unfold TxAt at tc)
          | (go_at_call 62; refine (RK1.out _).mono ?_; rintro e w3 ⟨rfl, rfl⟩)
          | (go_at_call 63; refine (RS1.out _).mono ?_; rintro e w3 ⟨rfl, rfl⟩)
          | (go_at_call 64; refine (AT.out _ (HL.out.then_ k4).s).mono ?_; unfold RetVBE; rintro e w5 ⟨rfl, hb⟩; (try clear tc); clear k1 k2 k3 k4 kc kf kq; obtain ⟨k1, k2, k3, k4, kq⟩ := K.out _ (HB.out.trans (hb.mono HB.out.size)); have hb2 := HB.out.trans (hb.mono HB.out.size); clear HB hb; have HB := hide hb2; clear hb2; have kc := kq.cell; have kf := kq.frozen; unfold LdAt at k1; have kl := kq.lt; have ne1 : ¬ w5.heap.size = w.heap.size + 2 := (by omega); have ne2 : ¬ w.heap.size + 2 = w5.heap.size := (by omega)))
        refine bodyPost_ret (results_blk3 rfl _ _ (w.heap.size + 2) 44 _ _ rfl (((((kq.set_ 0 _).set_ 1 _).set_ 2 _).set_ 3 _).alloc _) Try.underlying44 rfl (by kernel_rfl)) rfl ⟨by rw [HP.out, HAT.out]; rfl, (set4 k4 (by omega)).alloc (by simp [World.setCell]; omega) _⟩
      · have d6 : decide (L.last < ts) = true := decide_eq_true q6
        have d7 : decide (lo ≤ ts) = false := decide_eq_false q7
        clear q6 q7
        go_enter Try.func24, Try.ntmps24
        go_wp2_with (first
          | (go_at_call 17; refine (V.out _ (HL.out.then_ b3.out)).mono ?_; rintro e w1 ⟨rfl, hb⟩; obtain ⟨k1, k2, k3, k4, kq⟩ := K.out _ hb; have HB := hide hb; clear hb; have kc := kq.cell; have kf := kq.frozen; unfold LdAt at k1)
          | (go_at_call 29; refine (I.out _).mono ?_; rintro e w2 ⟨rfl, hb⟩; clear k1 k2 k3 k4 kc kf kq; obtain ⟨k1, k2, k3, k4, kq⟩ := K.out _ (HB.out.trans (hb.mono HB.out.size)); have hb2 := HB.out.trans (hb.mono HB.out.size); clear HB hb; have HB := hide hb2; clear hb2; have kc := kq.cell; have kf := kq.frozen; unfold LdAt at k1; have tc := TC.out _ k4; unfold TxAt at tc)
          | (go_at_call 62; refine (RK1.out _).mono ?_; rintro e w3 ⟨rfl, rfl⟩)
          | (go_at_call 63; refine (RS1.out _).mono ?_; rintro e w3 ⟨rfl, rfl⟩)
          | (go_at_call 64; refine (AT.out _ (HL.out.then_ k4).s).mono ?_; unfold RetVBE; rintro e w5 ⟨rfl, hb⟩; (try clear tc); clear k1 k2 k3 k4 kc kf kq; obtain ⟨k1, k2, k3, k4, kq⟩ := K.out _ (HB.out.trans (hb.mono HB.out.size)); have hb2 := HB.out.trans (hb.mono HB.out.size); clear HB hb; have HB := hide hb2; clear hb2; have kc := kq.cell; have kf := kq.frozen; unfold LdAt at k1; have kl := kq.lt; have ne1 : ¬ w5.heap.size = w.heap.size + 2 := (by omega); have ne2 : ¬ w.heap.size + 2 = w5.heap.size := (by omega)))
        refine bodyPost_ret (results_blk3 rfl _ _ (w.heap.size + 2) 44 _ _ rfl (((((kq.set_ 0 _).set_ 1 _).set_ 2 _).set_ 3 _).alloc _) Try.underlying44 rfl (by kernel_rfl)) rfl ⟨by rw [HP.out, HAT.out]; rfl, (set4 k4 (by omega)).alloc (by simp [World.setCell]; omega) _⟩
end Go.Proofs.Ytficjpfhakggmaa
