/-
  The walk of the reference's Stamp, whole.
-/
import Derived.Test.YtficjpfhakggmaaRu34
namespace Go.Proofs.Ytficjpfhakggmaa
open Go.RowKit Go.Maps
set_option maxHeartbeats 32000000 in
set_option maxRecDepth 100000 in
theorem rStampL_any (L : LdV) (v : TxV) (lo hi : Int) (w : World) (hs : LdS L) (hv : v.t.reads.length ≤ 100 ∧ v.t.writes.length ≤ 100) (h : LdW w L) (h' : TxW w v) :
    Calls Try.prog 15 #[.agg #[.int .i64 L.last, .slice L.sa L.st.length L.sc, .slice L.oa L.op.length L.oc], .agg #[.int .i64 v.t.id, .int .i64 v.t.ts, .slice v.ra v.t.reads.length v.rc, .slice v.wa v.t.writes.length v.wc], .agg #[.int .i64 lo, .int .i64 hi]] w (RetLXE w (stampS L.d v.t lo hi)) := by
  have V := hide fun W (s : LdW W L) => rlv_any L W hs s
  have I := hide fun W => rIv_any lo hi W
  have FM := hide fun W (s : TxW W v) => rTx_any v W hv s
  have HL := hide h
  have HT := hide h'
  have HS := hide hs
  have K0 := hide (StK.new (w := w) (tl := 25) (tt := 29) (ti := 31) (L := L) (v := v) (lo := lo) (hi := hi))
  have RC := stamp_cases L.d v.t lo hi
  change L.ok = false ∧ _ ∨ L.ok = true ∧ _ at RC
  clear h hs h'
  rcases RC with ⟨q1, hr⟩ | ⟨q1, ⟨q2, hr⟩ | ⟨q2, ⟨q3, hr⟩ | ⟨q3, ⟨q4, hr⟩ | ⟨q4, RC⟩⟩⟩⟩
  · have HP := hide hr
    rw [q1] at V
    clear hr
    cases q2 : ivB lo hi <;> cases q3 : formB v.t
    all_goals
      rw [q2] at I
      rw [q3] at FM
      clear q2 q3
      go_enter Try.func15, Try.ntmps15
      go_wp2_with (first
        | (go_at_call 17; refine (V.out _ (HL.out.then_ K0.out.b)).mono ?_; rintro e w1 ⟨rfl, hb⟩; have K1 := hide (K0.out.then_ hb); clear hb; (try clear kc); have kc := K1.out.c; unfold StC at kc)
        | (go_at_call 29; refine (I.out _).mono ?_; rintro e w2 ⟨rfl, hb⟩; have K2 := hide (K1.out.then_ hb); clear hb; (try clear kc); have kc := K2.out.c; unfold StC at kc)
        | (go_at_call 31; refine (FM.out _ (HT.out.then_ K2.out.b)).mono ?_; rintro e w3 ⟨rfl, hb⟩; have K3 := hide (K2.out.then_ hb); clear hb; (try clear kc); have kc := K3.out.c; unfold StC at kc; have kd := K3.out.d; unfold StD at kd))
      have X := stW_out K3.out.b K3.out.k3 K3.out.k4 (.int .i64 0) (.slice none 0 0) (.slice none 0 0) (.int .i64 0) (.int .i64 0) (.slice none 0 0) (.slice none 0 0)
      refine bodyPost_ret (results_bb1 rfl _ _ (w.heap.size + 3) (w.heap.size + 4) 25 29 _ _ _ _ rfl rfl X.1 X.2.1 Try.underlying25 Try.underlying29 rfl rfl (by kernel_rfl) (by kernel_rfl)) rfl ?_
      exact RetLXE.fail HP.out X.2.2
  · have HP := hide hr
    rw [q1] at V
    rw [q2] at I
    clear hr
    cases q3 : formB v.t
    all_goals
      rw [q3] at FM
      clear q3
      go_enter Try.func15, Try.ntmps15
      go_wp2_with (first
        | (go_at_call 17; refine (V.out _ (HL.out.then_ K0.out.b)).mono ?_; rintro e w1 ⟨rfl, hb⟩; have K1 := hide (K0.out.then_ hb); clear hb; (try clear kc); have kc := K1.out.c; unfold StC at kc)
        | (go_at_call 29; refine (I.out _).mono ?_; rintro e w2 ⟨rfl, hb⟩; have K2 := hide (K1.out.then_ hb); clear hb; (try clear kc); have kc := K2.out.c; unfold StC at kc)
        | (go_at_call 31; refine (FM.out _ (HT.out.then_ K2.out.b)).mono ?_; rintro e w3 ⟨rfl, hb⟩; have K3 := hide (K2.out.then_ hb); clear hb; (try clear kc); have kc := K3.out.c; unfold StC at kc; have kd := K3.out.d; unfold StD at kd))
      have X := stW_out K3.out.b K3.out.k3 K3.out.k4 (.int .i64 0) (.slice none 0 0) (.slice none 0 0) (.int .i64 0) (.int .i64 0) (.slice none 0 0) (.slice none 0 0)
      refine bodyPost_ret (results_bb1 rfl _ _ (w.heap.size + 3) (w.heap.size + 4) 25 29 _ _ _ _ rfl rfl X.1 X.2.1 Try.underlying25 Try.underlying29 rfl rfl (by kernel_rfl) (by kernel_rfl)) rfl ?_
      exact RetLXE.fail HP.out X.2.2
  · have HP := hide hr
    rw [q1] at V
    rw [q2] at I
    rw [q3] at FM
    clear hr
    go_enter Try.func15, Try.ntmps15
    go_wp2_with (first
      | (go_at_call 17; refine (V.out _ (HL.out.then_ K0.out.b)).mono ?_; rintro e w1 ⟨rfl, hb⟩; have K1 := hide (K0.out.then_ hb); clear hb; (try clear kc); have kc := K1.out.c; unfold StC at kc)
      | (go_at_call 29; refine (I.out _).mono ?_; rintro e w2 ⟨rfl, hb⟩; have K2 := hide (K1.out.then_ hb); clear hb; (try clear kc); have kc := K2.out.c; unfold StC at kc)
      | (go_at_call 31; refine (FM.out _ (HT.out.then_ K2.out.b)).mono ?_; rintro e w3 ⟨rfl, hb⟩; have K3 := hide (K2.out.then_ hb); clear hb; (try clear kc); have kc := K3.out.c; unfold StC at kc; have kd := K3.out.d; unfold StD at kd))
    have X := stW_out K3.out.b K3.out.k3 K3.out.k4 (.int .i64 0) (.slice none 0 0) (.slice none 0 0) (.int .i64 0) (.int .i64 0) (.slice none 0 0) (.slice none 0 0)
    refine bodyPost_ret (results_bb1 rfl _ _ (w.heap.size + 3) (w.heap.size + 4) 25 29 _ _ _ _ rfl rfl X.1 X.2.1 Try.underlying25 Try.underlying29 rfl rfl (by kernel_rfl) (by kernel_rfl)) rfl ?_
    exact RetLXE.fail HP.out X.2.2
  · have HP := hide hr
    rw [q1] at V
    rw [q2] at I
    rw [q3] at FM
    have hts : (v.t.ts != 0) = true := by simpa using q4
    clear hr q4
    go_enter Try.func15, Try.ntmps15
    go_wp2_with (first
      | (go_at_call 17; refine (V.out _ (HL.out.then_ K0.out.b)).mono ?_; rintro e w1 ⟨rfl, hb⟩; have K1 := hide (K0.out.then_ hb); clear hb; (try clear kc); have kc := K1.out.c; unfold StC at kc)
      | (go_at_call 29; refine (I.out _).mono ?_; rintro e w2 ⟨rfl, hb⟩; have K2 := hide (K1.out.then_ hb); clear hb; (try clear kc); have kc := K2.out.c; unfold StC at kc)
      | (go_at_call 31; refine (FM.out _ (HT.out.then_ K2.out.b)).mono ?_; rintro e w3 ⟨rfl, hb⟩; have K3 := hide (K2.out.then_ hb); clear hb; (try clear kc); have kc := K3.out.c; unfold StC at kc; have kd := K3.out.d; unfold StD at kd))
    have X := stW_out K3.out.b K3.out.k3 K3.out.k4 (.int .i64 0) (.slice none 0 0) (.slice none 0 0) (.int .i64 0) (.int .i64 0) (.slice none 0 0) (.slice none 0 0)
    refine bodyPost_ret (results_bb1 rfl _ _ (w.heap.size + 3) (w.heap.size + 4) 25 29 _ _ _ _ rfl rfl X.1 X.2.1 Try.underlying25 Try.underlying29 rfl rfl (by kernel_rfl) (by kernel_rfl)) rfl ?_
    exact RetLXE.fail HP.out X.2.2
  · exact rstamp_main L v lo hi w HS.out hv HL.out HT.out q1 q2 q3 q4 RC
end Go.Proofs.Ytficjpfhakggmaa
