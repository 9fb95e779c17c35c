/-
  The walk of commit.Stamp, whole.
-/
import Derived.Test.YtficjpfhakggmaaSp34
namespace Go.Proofs.Ytficjpfhakggmaa
open Go.RowKit Go.Maps
set_option maxHeartbeats 16000000 in
set_option maxRecDepth 100000 in
theorem stamp_anyF (L : LdV) (v : TxV) (lo hi : Int) (w : World) (hs : LdS L) (hv : v.t.reads.length ≤ 100 ∧ v.t.writes.length ≤ 100) (h : LdW w L) (h' : TxW w v) :
    Calls Try.prog 14 #[.agg #[.int .i64 L.last, .slice L.sa L.st.length L.sc, .slice L.oa L.op.length L.oc], .agg #[.int .i64 v.t.id, .int .i64 v.t.ts, .slice v.ra v.t.reads.length v.rc, .slice v.wa v.t.writes.length v.wc], .agg #[.int .i64 lo, .int .i64 hi]] w (RetLXF w (stampS L.d v.t lo hi)) := by
  have V := hide fun W (s : LdW W L) => lv_any L W hs s
  have I := hide fun W => iv_any lo hi W
  have FM := hide fun W (s : TxW W v) => formed_any v W hv s
  have FL := hide fail_lit
  have HL := hide h
  have HT := hide h'
  have HS := hide hs
  have K0 := hide (StK.new (w := w) (tl := 25) (tt := 29) (ti := 31) (L := L) (v := v) (lo := lo) (hi := hi))
  have RC := stamp_cases L.d v.t lo hi
  change L.ok = false ∧ _ ∨ L.ok = true ∧ _ at RC
  clear h hs h'
  rcases RC with ⟨q1, hr⟩ | ⟨q1, ⟨q2, hr⟩ | ⟨q2, ⟨q3, hr⟩ | ⟨q3, ⟨q4, hr⟩ | ⟨q4, RC⟩⟩⟩⟩
  · have HP := hide hr
    rw [q1] at V
    clear hr
    go_enter Try.func14, Try.ntmps14
    go_wp2_with (first
      | (go_at_call 16; refine (V.out _ (HL.out.then_ K0.out.b)).mono ?_; rintro e w1 ⟨rfl, hb⟩; have K := hide (K0.out.then_ hb); clear hb)
      | (go_at_call 42; refine (FL.out _ _).mono ?_; rintro e w9 ⟨rfl, hb⟩; have KK := hide (K.out.then_ hb); have kd := KK.out.d; unfold StD at kd; clear hb))
    have X := stW_out KK.out.b KK.out.k3 KK.out.k4 (.int .i64 0) (.slice none 0 0) (.slice none 0 0) (.int .i64 0) (.int .i64 0) (.slice none 0 0) (.slice none 0 0)
    refine bodyPost_ret (results_bb1 rfl _ _ (w.heap.size + 3) (w.heap.size + 4) 25 29 _ _ _ _ rfl rfl X.1 X.2.1 Try.underlying25 Try.underlying29 rfl rfl (by kernel_rfl) (by kernel_rfl)) rfl ?_
    exact RetLXF.fail HP.out X.2.2
  · have HP := hide hr
    rw [q1] at V
    rw [q2] at I
    clear hr
    go_enter Try.func14, Try.ntmps14
    go_wp2_with (first
      | (go_at_call 16; refine (V.out _ (HL.out.then_ K0.out.b)).mono ?_; rintro e w1 ⟨rfl, hb⟩; have K1 := hide (K0.out.then_ hb); clear hb; (try clear kc); have kc := K1.out.c; unfold StC at kc)
      | (go_at_call 43; refine (I.out _).mono ?_; rintro e w2 ⟨rfl, hb⟩; have K2 := hide (K1.out.then_ hb); clear hb; (try clear kc); have kc := K2.out.c; unfold StC at kc)
      | (go_at_call 42; refine (FL.out _ _).mono ?_; rintro e w9 ⟨rfl, hb⟩; have KK := hide (K2.out.then_ hb); have kd := KK.out.d; unfold StD at kd; clear hb))
    have X := stW_out KK.out.b KK.out.k3 KK.out.k4 (.int .i64 0) (.slice none 0 0) (.slice none 0 0) (.int .i64 0) (.int .i64 0) (.slice none 0 0) (.slice none 0 0)
    refine bodyPost_ret (results_bb1 rfl _ _ (w.heap.size + 3) (w.heap.size + 4) 25 29 _ _ _ _ rfl rfl X.1 X.2.1 Try.underlying25 Try.underlying29 rfl rfl (by kernel_rfl) (by kernel_rfl)) rfl ?_
    exact RetLXF.fail HP.out X.2.2
  · have HP := hide hr
    rw [q1] at V
    rw [q2] at I
    rw [q3] at FM
    clear hr
    go_enter Try.func14, Try.ntmps14
    go_wp2_with (first
      | (go_at_call 16; refine (V.out _ (HL.out.then_ K0.out.b)).mono ?_; rintro e w1 ⟨rfl, hb⟩; have K1 := hide (K0.out.then_ hb); clear hb; (try clear kc); have kc := K1.out.c; unfold StC at kc)
      | (go_at_call 43; refine (I.out _).mono ?_; rintro e w2 ⟨rfl, hb⟩; have K2 := hide (K1.out.then_ hb); clear hb; (try clear kc); have kc := K2.out.c; unfold StC at kc)
      | (go_at_call 44; refine (FM.out _ (HT.out.then_ K2.out.b)).mono ?_; rintro e w3 ⟨rfl, hb⟩; have K3 := hide (K2.out.then_ hb); clear hb; (try clear kc); have kc := K3.out.c; unfold StC at kc)
      | (go_at_call 42; refine (FL.out _ _).mono ?_; rintro e w9 ⟨rfl, hb⟩; have KK := hide (K3.out.then_ hb); have kd := KK.out.d; unfold StD at kd; clear hb))
    have X := stW_out KK.out.b KK.out.k3 KK.out.k4 (.int .i64 0) (.slice none 0 0) (.slice none 0 0) (.int .i64 0) (.int .i64 0) (.slice none 0 0) (.slice none 0 0)
    refine bodyPost_ret (results_bb1 rfl _ _ (w.heap.size + 3) (w.heap.size + 4) 25 29 _ _ _ _ rfl rfl X.1 X.2.1 Try.underlying25 Try.underlying29 rfl rfl (by kernel_rfl) (by kernel_rfl)) rfl ?_
    exact RetLXF.fail HP.out X.2.2
  · have HP := hide hr
    rw [q1] at V
    rw [q2] at I
    rw [q3] at FM
    have hts : (v.t.ts != 0) = true := by simpa using q4
    clear q4
    clear hr
    go_enter Try.func14, Try.ntmps14
    go_wp2_with (first
      | (go_at_call 16; refine (V.out _ (HL.out.then_ K0.out.b)).mono ?_; rintro e w1 ⟨rfl, hb⟩; have K1 := hide (K0.out.then_ hb); clear hb; (try clear kc); have kc := K1.out.c; unfold StC at kc)
      | (go_at_call 43; refine (I.out _).mono ?_; rintro e w2 ⟨rfl, hb⟩; have K2 := hide (K1.out.then_ hb); clear hb; (try clear kc); have kc := K2.out.c; unfold StC at kc)
      | (go_at_call 44; refine (FM.out _ (HT.out.then_ K2.out.b)).mono ?_; rintro e w3 ⟨rfl, hb⟩; have K3 := hide (K2.out.then_ hb); clear hb; (try clear kc); have kc := K3.out.c; unfold StC at kc)
      | (go_at_call 42; refine (FL.out _ _).mono ?_; rintro e w9 ⟨rfl, hb⟩; have KK := hide (K3.out.then_ hb); have kd := KK.out.d; unfold StD at kd; clear hb))
    have X := stW_out KK.out.b KK.out.k3 KK.out.k4 (.int .i64 0) (.slice none 0 0) (.slice none 0 0) (.int .i64 0) (.int .i64 0) (.slice none 0 0) (.slice none 0 0)
    refine bodyPost_ret (results_bb1 rfl _ _ (w.heap.size + 3) (w.heap.size + 4) 25 29 _ _ _ _ rfl rfl X.1 X.2.1 Try.underlying25 Try.underlying29 rfl rfl (by kernel_rfl) (by kernel_rfl)) rfl ?_
    exact RetLXF.fail HP.out X.2.2
  · exact stamp_main L v lo hi w HS.out hv HL.out HT.out q1 q2 q3 q4 RC
theorem stamp_any (L : LdV) (v : TxV) (lo hi : Int) (w : World) (hs : LdS L) (hv : v.t.reads.length ≤ 100 ∧ v.t.writes.length ≤ 100) (h : LdW w L) (h' : TxW w v) :
    Calls Try.prog 14 #[.agg #[.int .i64 L.last, .slice L.sa L.st.length L.sc, .slice L.oa L.op.length L.oc], .agg #[.int .i64 v.t.id, .int .i64 v.t.ts, .slice v.ra v.t.reads.length v.rc, .slice v.wa v.t.writes.length v.wc], .agg #[.int .i64 lo, .int .i64 hi]] w (RetLXE w (stampS L.d v.t lo hi)) :=
  (stamp_anyF L v lo hi w hs hv h h').mono fun _ _ h => h.e
end Go.Proofs.Ytficjpfhakggmaa
