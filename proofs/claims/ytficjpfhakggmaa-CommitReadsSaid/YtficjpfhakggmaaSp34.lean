/-
  The walk of commit.Stamp behind its first tests.
-/
import Derived.Test.YtficjpfhakggmaaSo34
namespace Go.Proofs.Ytficjpfhakggmaa
open Go.RowKit Go.Maps
set_option maxHeartbeats 32000000 in
set_option maxRecDepth 100000 in
theorem stamp_main (L : LdV) (v : TxV) (lo hi : Int) (w : World) (hs : LdS L) (hv : v.t.reads.length ≤ 100 ∧ v.t.writes.length ≤ 100) (h : LdW w L) (h' : TxW w v) (q1 : L.ok = true) (q2 : ivB lo hi = true) (q3 : formB v.t = true) (q4 : v.t.ts = 0)
    (RC : v.t.reads.any (oldS (newestLS L.d)) = true ∧ stampS L.d v.t lo hi = (LD.zero, Tx.zero, 60) ∨ v.t.reads.any (oldS (newestLS L.d)) = false ∧ (L.d.op.length = 2000 ∧ stampS L.d v.t lo hi = (LD.zero, Tx.zero, 2) ∨ L.d.op.length ≠ 2000 ∧ (4000 < L.d.st.length + wlen L.d.op + v.t.writes.length ∧ stampS L.d v.t lo hi = (LD.zero, Tx.zero, 2) ∨ L.d.st.length + wlen L.d.op + v.t.writes.length ≤ 4000 ∧
        (3000000000000000 < max (L.d.last + 1) hi ∧ stampS L.d v.t lo hi = (LD.zero, Tx.zero, 3) ∨ max (L.d.last + 1) hi ≤ 3000000000000000 ∧ stampS L.d v.t lo hi = (⟨max (L.d.last + 1) hi, L.d.st, L.d.op ++ [v.t.at (max (L.d.last + 1) hi)]⟩, v.t.at (max (L.d.last + 1) hi), 0))))) :
    Calls Try.prog 14 #[.agg #[.int .i64 L.last, .slice L.sa L.st.length L.sc, .slice L.oa L.op.length L.oc], .agg #[.int .i64 v.t.id, .int .i64 v.t.ts, .slice v.ra v.t.reads.length v.rc, .slice v.wa v.t.writes.length v.wc], .agg #[.int .i64 lo, .int .i64 hi]] w (RetLXF w (stampS L.d v.t lo hi)) := by
  have V := hide fun W (s : LdW W L) => lv_any L W hs s
  have I := hide fun W => iv_any lo hi W
  have FM := hide fun W (s : TxW W v) => formed_any v W hv s
  have NM := hide fun W (s : LdW W L) => newest_any L W hs q1 s
  have FL := hide fail_lit
  have HL := hide h
  have HT := hide h'
  have HS := hide hs
  have K0 := hide (StK.new (w := w) (tl := 25) (tt := 29) (ti := 31) (L := L) (v := v) (lo := lo) (hi := hi))
  have hts : (v.t.ts != 0) = false := by simp [q4]
  have AN0 := any_newest (L := L.d) q1 q3
  have RK := hide (show ∀ s ∈ v.t.reads, (Lit.int .i64 s.key).wf = true from fun s hs => by
    obtain ⟨i, hi, rfl⟩ := List.getElem_of_mem hs
    have := form_rkey q3 hi
    simp only [keyB, Bool.and_eq_true, decide_eq_true_eq] at this
    exact wfI (by omega))
  have OK := hide (show leadB L.last L.st (txs L.op) = true from q1)
  have FK := hide q3
  have Q4 := hide q4
  have LO := hide (ivB_bd q2)
  rw [q1] at V
  rw [q2] at I
  rw [q3] at FM
  clear h hs h' q1 q2 q3 q4
  rcases RC with ⟨q5, hr⟩ | ⟨q5, RC⟩
  · have HP := hide hr
    have AN := hide (AN0.trans q5)
    clear hr AN0 q5
    go_enter Try.func14, Try.ntmps14
    go_wp2_with (first
      | (go_at_call 16; refine (V.out _ (HL.out.then_ K0.out.b)).mono ?_; rintro e w1 ⟨rfl, hb⟩; have K1 := hide (K0.out.then_ hb); clear hb; (try clear kc); have kc := K1.out.c; unfold StC at kc)
      | (go_at_call 43; refine (I.out _).mono ?_; rintro e w2 ⟨rfl, hb⟩; have K2 := hide (K1.out.then_ hb); clear hb; (try clear kc); have kc := K2.out.c; unfold StC at kc)
      | (go_at_call 44; refine (FM.out _ (HT.out.then_ K2.out.b)).mono ?_; rintro e w3 ⟨rfl, hb⟩; have K3 := hide (K2.out.then_ hb); clear hb; (try clear kc); have kc := K3.out.c; unfold StC at kc)
      | (go_at_call 45; refine (NM.out _ (HL.out.then_ K3.out.b)).mono ?_; rintro e w4 ⟨b4, n4, rfl, hm, hb⟩; have M4 := hide hm; clear hm; have K4 := hide ((K3.out.then_ hb).then_ ((Below.refl _ _).alloc (Nat.le_refl _) (.cells #[.map (some b4)] 80))); clear hb; (try clear kc); have kc := K4.out.c; unfold StC at kc)
      | (go_at_call 46; refine (hasF_any w4.heap.size b4 n4 (mapL L.d) v.ra v.rc v.t.reads _ hv.1 RK.out ((Blk.new w4 80 #[.map (some b4)]).cell 0) (M4.out.alloc _) (HT.out.r.then_ K4.out.b)).mono ?_; rw [AN.out]; rintro e w5 ⟨rfl, hb⟩; have K5 := hide (K4.out.then_ hb); clear hb; (try clear kc); have kc := K5.out.c; unfold StC at kc)
      | (go_at_call 42; refine (FL.out _ _).mono ?_; rintro e w9 ⟨rfl, hb⟩; have KK := hide (K5.out.then_ hb); have kd := KK.out.d; unfold StD at kd; clear hb))
    have X := stW_out KK.out.b KK.out.k3 KK.out.k4 (.int .i64 0) (.slice none 0 0) (.slice none 0 0) (.int .i64 0) (.int .i64 0) (.slice none 0 0) (.slice none 0 0)
    refine bodyPost_ret (results_bb1 rfl _ _ (w.heap.size + 3) (w.heap.size + 4) 25 29 _ _ _ _ rfl rfl X.1 X.2.1 Try.underlying25 Try.underlying29 rfl rfl (by kernel_rfl) (by kernel_rfl)) rfl ?_
    exact RetLXF.fail HP.out X.2.2
  have AN := hide (AN0.trans q5)
  have hst := HL.out.sl
  have lst := (lead_adds OK.out).1.len
  have hlo := (lead_small OK.out)
  clear AN0 q5
  rcases RC with ⟨q6, hr⟩ | ⟨q6, RC⟩
  · have HP := hide hr
    have hop : L.op.length = 2000 := by rw [← q6]; exact (txs_len _).symm
    have d6 : ((L.op.length : Int) == 2000) = true := by rw [hop]; rfl
    clear hr q6 hop
    go_enter Try.func14, Try.ntmps14
    go_wp2_with (first
      | (go_at_call 16; refine (V.out _ (HL.out.then_ K0.out.b)).mono ?_; rintro e w1 ⟨rfl, hb⟩; have K1 := hide (K0.out.then_ hb); clear hb; (try clear kc); have kc := K1.out.c; unfold StC at kc)
      | (go_at_call 43; refine (I.out _).mono ?_; rintro e w2 ⟨rfl, hb⟩; have K2 := hide (K1.out.then_ hb); clear hb; (try clear kc); have kc := K2.out.c; unfold StC at kc)
      | (go_at_call 44; refine (FM.out _ (HT.out.then_ K2.out.b)).mono ?_; rintro e w3 ⟨rfl, hb⟩; have K3 := hide (K2.out.then_ hb); clear hb; (try clear kc); have kc := K3.out.c; unfold StC at kc)
      | (go_at_call 45; refine (NM.out _ (HL.out.then_ K3.out.b)).mono ?_; rintro e w4 ⟨b4, n4, rfl, hm, hb⟩; have M4 := hide hm; clear hm; have K4 := hide ((K3.out.then_ hb).then_ ((Below.refl _ _).alloc (Nat.le_refl _) (.cells #[.map (some b4)] 80))); clear hb; (try clear kc); have kc := K4.out.c; unfold StC at kc)
      | (go_at_call 46; refine (hasF_any w4.heap.size b4 n4 (mapL L.d) v.ra v.rc v.t.reads _ hv.1 RK.out ((Blk.new w4 80 #[.map (some b4)]).cell 0) (M4.out.alloc _) (HT.out.r.then_ K4.out.b)).mono ?_; rw [AN.out]; rintro e w5 ⟨rfl, hb⟩; have K5 := hide (K4.out.then_ hb); clear hb; (try clear kc); have kc := K5.out.c; unfold StC at kc))
    have kf := fun x : Fut w5.heap.size w5 => (K5.out.then_ x.h).c
    unfold StC at kf
    refine wp_region_fut w5.heap.size (by kernel_rfl) (by kernel_rfl) ?_
    repeat (go_big_quiet_step ((first | fail)))
    refine wpQuiet_nil ?_
    intro w6 hq'; have hb6 := Fut.of hq'; clear hq'
    have K6 := hide (K5.out.then_ hb6)
    clear kf kc hb6
    have kc := K6.out.c
    unfold StC at kc
    go_wp2_with (go_at_call 42; refine (FL.out _ _).mono ?_; rintro e w9 ⟨rfl, hb⟩; have KK := hide (K6.out.then_ hb); have kd := KK.out.d; unfold StD at kd; clear hb)
    have X := stW_out KK.out.b KK.out.k3 KK.out.k4 (.int .i64 0) (.slice none 0 0) (.slice none 0 0) (.int .i64 0) (.int .i64 0) (.slice none 0 0) (.slice none 0 0)
    refine bodyPost_ret (results_bb1 rfl _ _ (w.heap.size + 3) (w.heap.size + 4) 25 29 _ _ _ _ rfl rfl X.1 X.2.1 Try.underlying25 Try.underlying29 rfl rfl (by kernel_rfl) (by kernel_rfl)) rfl ?_
    exact RetLXF.fail HP.out X.2.2
  have d6 : ((L.op.length : Int) == 2000) = false := by
    have : L.op.length ≠ 2000 := by rw [← txs_len]; exact q6
    simp; omega
  have Z := hide fun W (s : Below w.heap.size w W) => size_any L.last L.sa L.st.length L.sc L.oa L.oc L.op W HS.out.small (by omega) (HL.out.o.then_ s)
  have hfl := (form_len FK.out).2
  have hsm := lead_small OK.out
  obtain ⟨m, hm⟩ : ∃ m, m = L.st.length + wlen (txs L.op) := ⟨_, rfl⟩
  change (4000 < L.st.length + wlen (txs L.op) + v.t.writes.length ∧ _) ∨ (L.st.length + wlen (txs L.op) + v.t.writes.length ≤ 4000 ∧ _) at RC
  rw [← hm] at Z RC hsm
  have d7w : IntKind.i64.wrap ((m : Int) + (v.t.writes.length : Int)) = (m : Int) + v.t.writes.length := IntWalk.i64_in _ (by omega)
  clear q6 hlo lst
  rcases RC with ⟨q7, hr⟩ | ⟨q7, RC⟩
  · have HP := hide hr
    have d7 : decide ((4000 : Int) < (m : Int) + (v.t.writes.length : Int)) = true := decide_eq_true (by omega)
    clear hr q7 hm
    go_enter Try.func14, Try.ntmps14
    go_wp2_with (first
      | (go_at_call 16; refine (V.out _ (HL.out.then_ K0.out.b)).mono ?_; rintro e w1 ⟨rfl, hb⟩; have K1 := hide (K0.out.then_ hb); clear hb; (try clear kc); have kc := K1.out.c; unfold StC at kc)
      | (go_at_call 43; refine (I.out _).mono ?_; rintro e w2 ⟨rfl, hb⟩; have K2 := hide (K1.out.then_ hb); clear hb; (try clear kc); have kc := K2.out.c; unfold StC at kc)
      | (go_at_call 44; refine (FM.out _ (HT.out.then_ K2.out.b)).mono ?_; rintro e w3 ⟨rfl, hb⟩; have K3 := hide (K2.out.then_ hb); clear hb; (try clear kc); have kc := K3.out.c; unfold StC at kc)
      | (go_at_call 45; refine (NM.out _ (HL.out.then_ K3.out.b)).mono ?_; rintro e w4 ⟨b4, n4, rfl, hm, hb⟩; have M4 := hide hm; clear hm; have K4 := hide ((K3.out.then_ hb).then_ ((Below.refl _ _).alloc (Nat.le_refl _) (.cells #[.map (some b4)] 80))); clear hb; (try clear kc); have kc := K4.out.c; unfold StC at kc)
      | (go_at_call 46; refine (hasF_any w4.heap.size b4 n4 (mapL L.d) v.ra v.rc v.t.reads _ hv.1 RK.out ((Blk.new w4 80 #[.map (some b4)]).cell 0) (M4.out.alloc _) (HT.out.r.then_ K4.out.b)).mono ?_; rw [AN.out]; rintro e w5 ⟨rfl, hb⟩; have K5 := hide (K4.out.then_ hb); clear hb; (try clear kc); have kc := K5.out.c; unfold StC at kc))
    go_region_held3 (fun w' => StK w w' 25 29 31 L v lo hi ∧ (w'.cell? ⟨w.heap.size, 0, none⟩ = some (.int .i64 L.last) ∧ w'.cell? ⟨w.heap.size, 1, none⟩ = some (.slice L.sa L.st.length L.sc) ∧ w'.cell? ⟨w.heap.size, 2, none⟩ = some (.slice L.oa L.op.length L.oc)) ∧ w'.cell? ⟨w.heap.size + 1, 3, none⟩ = some (.slice v.wa v.t.writes.length v.wc))
      (first | exact stk_all (K5.out.then_ (Below.refl _ _).drew) | exact stk_all (StK.then_ (And.left (by assumption)) (Below.refl _ _).drew) | exact stk_all (StK.then_ (And.left (by assumption)) (by assumption)))
      ((go_at_call 48; with_reducible refine (Z.out _ (StK.b (And.left (by assumption)))).mono ?_; rintro e w6 ⟨rfl, hb6⟩; have K6 := hide (StK.then_ (And.left (by assumption)) hb6)))
    go_wp2_with (go_at_call 42; refine (FL.out _ _).mono ?_; rintro e w9 ⟨rfl, hb⟩; have KK := hide (K6.out.then_ hb); have kd := KK.out.d; unfold StD at kd; clear hb)
    have X := stW_out KK.out.b KK.out.k3 KK.out.k4 (.int .i64 0) (.slice none 0 0) (.slice none 0 0) (.int .i64 0) (.int .i64 0) (.slice none 0 0) (.slice none 0 0)
    refine bodyPost_ret (results_bb1 rfl _ _ (w.heap.size + 3) (w.heap.size + 4) 25 29 _ _ _ _ rfl rfl X.1 X.2.1 Try.underlying25 Try.underlying29 rfl rfl (by kernel_rfl) (by kernel_rfl)) rfl ?_
    exact RetLXF.fail HP.out X.2.2
  · have d7 : decide ((4000 : Int) < (m : Int) + (v.t.writes.length : Int)) = false := decide_eq_false (by omega)
    have CP := hide fun W (s : TxW W v) => copied_any v W hv s
    clear q7 hm
    change (3000000000000000 < max (L.last + 1) hi ∧ _) ∨ (max (L.last + 1) hi ≤ 3000000000000000 ∧ stampS L.d v.t lo hi = (⟨max (L.last + 1) hi, L.st, txs L.op ++ [v.t.at (max (L.last + 1) hi)]⟩, v.t.at (max (L.last + 1) hi), 0)) at RC
    obtain ⟨T, hT⟩ : ∃ T, T = max (L.last + 1) hi := ⟨_, rfl⟩
    rw [← hT] at RC
    have hT2 : 0 ≤ T ∧ T ≤ 3000000000000001 := by have := LO.out; omega
    have HP := hide RC
    clear RC
    go_enter Try.func14, Try.ntmps14
    go_wp2_with (first
      | (go_at_call 16; refine (V.out _ (HL.out.then_ K0.out.b)).mono ?_; rintro e w1 ⟨rfl, hb⟩; have K1 := hide (K0.out.then_ hb); clear hb; (try clear kc); have kc := K1.out.c; unfold StC at kc)
      | (go_at_call 43; refine (I.out _).mono ?_; rintro e w2 ⟨rfl, hb⟩; have K2 := hide (K1.out.then_ hb); clear hb; (try clear kc); have kc := K2.out.c; unfold StC at kc)
      | (go_at_call 44; refine (FM.out _ (HT.out.then_ K2.out.b)).mono ?_; rintro e w3 ⟨rfl, hb⟩; have K3 := hide (K2.out.then_ hb); clear hb; (try clear kc); have kc := K3.out.c; unfold StC at kc)
      | (go_at_call 45; refine (NM.out _ (HL.out.then_ K3.out.b)).mono ?_; rintro e w4 ⟨b4, n4, rfl, hm, hb⟩; have M4 := hide hm; clear hm; have K4 := hide ((K3.out.then_ hb).then_ ((Below.refl _ _).alloc (Nat.le_refl _) (.cells #[.map (some b4)] 80))); clear hb; (try clear kc); have kc := K4.out.c; unfold StC at kc)
      | (go_at_call 46; refine (hasF_any w4.heap.size b4 n4 (mapL L.d) v.ra v.rc v.t.reads _ hv.1 RK.out ((Blk.new w4 80 #[.map (some b4)]).cell 0) (M4.out.alloc _) (HT.out.r.then_ K4.out.b)).mono ?_; rw [AN.out]; rintro e w5 ⟨rfl, hb⟩; have K5 := hide (K4.out.then_ hb); clear hb; (try clear kc); have kc := K5.out.c; unfold StC at kc))
    go_region_held3 (fun w' => StK w w' 25 29 31 L v lo hi ∧ (w'.cell? ⟨w.heap.size, 0, none⟩ = some (.int .i64 L.last) ∧ w'.cell? ⟨w.heap.size, 1, none⟩ = some (.slice L.sa L.st.length L.sc) ∧ w'.cell? ⟨w.heap.size, 2, none⟩ = some (.slice L.oa L.op.length L.oc)) ∧ w'.cell? ⟨w.heap.size + 1, 3, none⟩ = some (.slice v.wa v.t.writes.length v.wc))
      (first | exact stk_all (K5.out.then_ (Below.refl _ _).drew) | exact stk_all (StK.then_ (And.left (by assumption)) (Below.refl _ _).drew) | exact stk_all (StK.then_ (And.left (by assumption)) (by assumption)))
      ((go_at_call 48; with_reducible refine (Z.out _ (StK.b (And.left (by assumption)))).mono ?_; rintro e w6 ⟨rfl, hb6⟩; have K6 := hide (StK.then_ (And.left (by assumption)) hb6)))
    have hl6 := K6.out.lt
    clear kc
    have kc := K6.out.c
    unfold StC at kc
    have hmx : (if L.last + 1 < hi then hi else L.last + 1) = T := by rw [hT]; split <;> omega
    clear hT
    go_upto_region 11 with (go_at_call 49; refine (CP.out _ (HT.out.then_ K6.out.b)).mono ?_; rintro e w7 ⟨⟨t7, ra7, rc7, wa7, wc7⟩, rfl, hb, ht7, hw7, hr7, hs7⟩; obtain rfl : t7 = v.t := ht7; unfold TxV.agg; dsimp only at hw7 hr7 hs7 ⊢; have W7 := hide hw7; have R7 := hide hr7; have S7 := hide hs7; have K7 := hide (K6.out.then_ hb); have hs6 := hb.size; clear hw7 hr7 hs7 hb; (try clear kc); have kc := K7.out.c; have kf1 := K7.out.k1.frozen; unfold StC at kc)
    have hT3 : stB w7 w.heap.size (.int .i64 v.t.id) (.int .i64 v.t.ts) (.slice ra7 v.t.reads.length rc7) (.slice wa7 v.t.writes.length wc7) (.int .i64 T) = ((((w7.setCell ⟨w.heap.size + 1, 0, none⟩ (.int .i64 v.t.id)).setCell ⟨w.heap.size + 1, 1, none⟩ (.int .i64 v.t.ts)).setCell ⟨w.heap.size + 1, 2, none⟩ (.slice ra7 v.t.reads.length rc7)).setCell ⟨w.heap.size + 1, 3, none⟩ (.slice wa7 v.t.writes.length wc7)).setCell ⟨w.heap.size + 1, 1, none⟩ (.int .i64 T) := rfl
    rw [← hT3]
    have k8 := K7.out.box ⟨v.t.at T, ra7, rc7, wa7, wc7⟩ (.int .i64 v.t.ts)
    have ho := stB_other w7 w.heap.size (.int .i64 v.t.id) (.int .i64 v.t.ts) (.slice ra7 v.t.reads.length rc7) (.slice wa7 v.t.writes.length wc7) (.int .i64 T)
    have x8 : TxW (stB w7 w.heap.size (.int .i64 v.t.id) (.int .i64 v.t.ts) (.slice ra7 v.t.reads.length rc7) (.slice wa7 v.t.writes.length wc7) (.int .i64 T)) ⟨v.t.at T, ra7, rc7, wa7, wc7⟩ := TxW.at_ (v := ⟨v.t.at T, ra7, rc7, wa7, wc7⟩) ⟨W7.out.r, W7.out.s, W7.out.rl, W7.out.rm, W7.out.wl, W7.out.wm⟩ ho.1 (fun a ha => ho.2 _ (by have := (R7.out a ha).1; omega)) (fun a ha => ho.2 _ (by have := (S7.out a ha).1; omega))
    have b8 := ho.1
    obtain ⟨W8, hW8⟩ : ∃ W, W = stB w7 w.heap.size (.int .i64 v.t.id) (.int .i64 v.t.ts) (.slice ra7 v.t.reads.length rc7) (.slice wa7 v.t.writes.length wc7) (.int .i64 T) := ⟨_, rfl⟩
    change StK w (stB w7 w.heap.size (.int .i64 v.t.id) (.int .i64 v.t.ts) (.slice ra7 v.t.reads.length rc7) (.slice wa7 v.t.writes.length wc7) (.int .i64 T)) _ _ _ _ _ _ _ at k8
    rw [← hW8] at k8 x8 b8 ⊢
    have K8 := hide k8
    have X8 := hide x8
    have RV := hide (show (∀ a, ra7 = some a → w.heap.size + 4 < a.block ∧ a.block < W8.heap.size) ∧ ∀ a, wa7 = some a → w.heap.size + 4 < a.block ∧ a.block < W8.heap.size from ⟨fun a ha => ⟨by have := (R7.out a ha).1; omega, by have := (R7.out a ha).2; omega⟩, fun a ha => ⟨by have := (S7.out a ha).1; omega, by have := (S7.out a ha).2; omega⟩⟩)
    clear hT3 k8 x8 ho hW8 kc kf1 b8
    have kc0 := K8.out.c
    have kc : StC W8 w.heap.size L ⟨v.t.at T, ra7, rc7, wa7, wc7⟩ lo hi := kc0
    unfold StC at kc
    dsimp only [Tx.at] at kc
    clear kc0
    rcases HP.out with ⟨q8, hr⟩ | ⟨q8, hr⟩
    · have HQ := hide hr
      have d8 : decide ((3000000000000000 : Int) < T) = true := decide_eq_true q8
      clear hr q8
      go_wp2_with (go_at_call 42; refine (FL.out _ _).mono ?_; rintro e w9 ⟨rfl, hb⟩; have KK := hide (K8.out.then_ hb); have kd := KK.out.d; unfold StD at kd; clear hb)
      have X := stW_out KK.out.b KK.out.k3 KK.out.k4 (.int .i64 0) (.slice none 0 0) (.slice none 0 0) (.int .i64 0) (.int .i64 0) (.slice none 0 0) (.slice none 0 0)
      refine bodyPost_ret (results_bb1 rfl _ _ (w.heap.size + 3) (w.heap.size + 4) 25 29 _ _ _ _ rfl rfl X.1 X.2.1 Try.underlying25 Try.underlying29 rfl rfl (by kernel_rfl) (by kernel_rfl)) rfl ?_
      exact RetLXF.fail HQ.out X.2.2
    · have HQ := hide hr
      have d8 : decide ((3000000000000000 : Int) < T) = false := decide_eq_false (by omega)
      clear hr q8
      obtain ⟨i0, hi0, hz0, hz1, hz2⟩ := info_parts infoTx
      have lst := (lead_adds OK.out).1.len
      have hlo : L.op.length ≤ 2000 := by have := HS.out.small.len; rw [txs_len] at this; exact this
      have CL := hide fun W (s : Below w.heap.size w W) => cloneV_any L.sa L.sc L.st W (by omega) (HL.out.s.then_ s)
      have CO := hide fun W (s : Below w.heap.size w W) => copies_own L.oa L.oc L.op W HS.out.small (HL.out.o.then_ s)
      have CX := hide fun W (s : TxW W ⟨v.t.at T, ra7, rc7, wa7, wc7⟩) => copied_lit v T ra7 rc7 wa7 wc7 W hv s
      have S8X := hide (StX.drew (show StX w W8 L v T ra7 rc7 wa7 wc7 from StS.of (v := ⟨v.t.at T, ra7, rc7, wa7, wc7⟩) K8.out X8.out))
      have RV3 := hide (show (∀ a, ra7 = some a → w.heap.size + 4 < a.block) ∧ ∀ a, wa7 = some a → w.heap.size + 4 < a.block from ⟨fun a ha => (RV.out.1 a ha).1, fun a ha => (RV.out.2 a ha).1⟩)
      go_upto_region 13 with fail
      go_region_held3 (fun w' => (Below w.heap.size w w' ∧ TxW w' ⟨v.t.at T, ra7, rc7, wa7, wc7⟩ ∧ w.heap.size + 4 < w'.heap.size) ∧ (w'.cell? ⟨w.heap.size, 1, none⟩ = some (.slice L.sa L.st.length L.sc) ∧ w'.cell? ⟨w.heap.size, 2, none⟩ = some (.slice L.oa L.op.length L.oc)) ∧ (w'.cell? ⟨w.heap.size + 1, 0, none⟩ = some (.int .i64 v.t.id) ∧ w'.cell? ⟨w.heap.size + 1, 1, none⟩ = some (.int .i64 T) ∧ w'.cell? ⟨w.heap.size + 1, 2, none⟩ = some (.slice ra7 v.t.reads.length rc7) ∧ w'.cell? ⟨w.heap.size + 1, 3, none⟩ = some (.slice wa7 v.t.writes.length wc7)))
        (first
          | with_reducible exact StX.set4 RV3.out (by assumption)
          | with_reducible exact StX.set3 RV3.out (by assumption)
          | with_reducible exact S8X.out
          | with_reducible exact StX.alloc (by assumption) _
          | with_reducible exact StX.grow G12.out RW12.out (by assumption)
          | with_reducible exact StX.call (by assumption) (by assumption)
          | with_reducible exact StX.drew (by assumption)
          | fail "no keep")
        (first
          | (go_at_call 50; (with_reducible refine (CL.out _ (And.left (And.left (by assumption)))).mono ?_); rintro e w9 ⟨v9, rfl, o9, hb9⟩; have R9 := hide (fun a (ha : v9.ownBlock = some a) => World.ownsRow.lt o9 a ha); obtain ⟨A9, c9, rfl, l9, m9, s9⟩ := o9.form; have S9 := hide s9; have K9 := hide (K8.out.then_ ((Below.refl _ _).drew.trans hb9)); have hs9 : W8.heap.size ≤ w9.heap.size := hb9.size; clear o9 s9)
          | (go_at_call 51; (with_reducible refine (CO.out _ (And.left (And.left (by assumption)))).mono ?_); rintro e w10 ⟨A10, c10, o10, rfl, hb10, n10, l10, m10, t10, s10, own10, e10⟩; have K10 := hide (K9.out.then_ hb10); have S10 := hide (S9.out.then_ hb10); have O10 := hide own10; have E10 := hide e10; have T10 := hide t10; have N10 := hide n10; have hs10 := hb10.size; clear s10 own10 e10 t10 n10)
          | (go_at_call 49; (with_reducible refine (CX.out _ (And.left (And.right (And.left (by assumption))))).mono ?_); rintro e w11 ⟨ra11, rc11, wa11, wc11, rfl, hb11, w11x, r11, s11⟩; have K11 := hide (K10.out.then_ hb11); have S11 := hide (S10.out.then_ hb11); have O11 := hide (own_below O10.out hb11); have E11 := hide (fun x hx => (E10.out x hx).then_ hb11); have X11 := hide w11x; have P11 := hide r11; have Q11 := hide s11; have hs11 := hb11.size; clear w11x r11 s11)
          | (refine guard_append _ ?_ rfl ?_; rfl; refine step_append_rd rfl _ _ 23 (by rfl) w9.heap.size 29 i0 _ 4 64 Try.underlying23 hi0 hz0 hz1 hz2 rfl (by decide) _ L.op.length (o10.flatMap TxV.cells) (by rfl) (own_below O11.out ((Below.refl _ _).alloc (Nat.le_refl _) _)) (some ⟨w11.heap.size, 0, none⟩) 1 1 (TxV.cells ⟨v.t.at T, ra11, rc11, wa11, wc11⟩) (by rfl) rfl (Rd.new_row _ _ _) (by simpa using tx_one [⟨v.t.at T, ra11, rc11, wa11, wc11⟩]) (by simp only [maxLen]; omega) (by omega) (by simp; omega) ?_; intro v12 w12 hown12 hg12 hr12; obtain ⟨A12, c12, rfl, l12, m12, rd12⟩ := own_form hown12; have D12 := hide rd12; clear rd12; have G12 := hide hg12; have H12 := hide hown12; have Q12 := hide hr12; have K12 := hide ((K11.out.then_ ((Below.refl _ _).alloc (Nat.le_refl _) (.cells #[.int .i64 v.t.id, .int .i64 T, .slice ra11 v.t.reads.length rc11, .slice wa11 v.t.writes.length wc11] 29))).grown hg12 (fun k hk => by have := (World.ownsRow.lt O11.out k hk).1; have := K8.out.lt; omega)); have RW12 := hide (show (∀ k, (Value.slice A10 L.op.length c10).ownBlock = some k → w.heap.size + 4 < k) ∧ (∀ a, ra7 = some a → some a.block ≠ (Value.slice A10 L.op.length c10).ownBlock) ∧ ∀ a, wa7 = some a → some a.block ≠ (Value.slice A10 L.op.length c10).ownBlock from ⟨fun k hk => by have := (World.ownsRow.lt O11.out k hk).1; have := K8.out.lt; omega, fun a ha e => by have := (World.ownsRow.lt O11.out _ e.symm).1; have := (RV.out.1 a ha).2; omega, fun a ha e => by have := (World.ownsRow.lt O11.out _ e.symm).1; have := (RV.out.2 a ha).2; omega⟩); clear hown12 hg12 hr12; have kd := K12.out.d; unfold StD at kd)
          | fail "no arm")
      have hg9 : w.heap.size + 4 < w9.heap.size := by have := K8.out.lt; omega
      have hal : Below w11.heap.size w11 (w11.alloc (.cells #[.int .i64 v.t.id, .int .i64 T, .slice ra11 v.t.reads.length rc11, .slice wa11 v.t.writes.length wc11] 29)) := (Below.refl _ _).alloc (Nat.le_refl _) _
      have h9 : VS w12 A9 L.st := Rd.grown (S11.out.then_ hal) (fun a ha e => by have h1 := (R9.out a.block (by rw [ha]; rfl)).2; have h2 := (World.ownsRow.lt O11.out _ e.symm).1; omega) G12.out
      have r9 : ∀ a, A9 = some a → w.heap.size + 4 < a.block := fun a ha => by have h1 : W8.heap.size ≤ a.block := (R9.out a.block (by rw [ha]; rfl)).1; have := K8.out.lt; omega
      have h12 : RS TxV.cells w12 A12 (o10 ++ [⟨v.t.at T, ra11, rc11, wa11, wc11⟩]) := by
        unfold RS
        rw [List.flatMap_append]
        simpa using D12.out
      have r12 : ∀ a, A12 = some a → w.heap.size + 4 < a.block := fun a ha => by have h1 := (World.ownsRow.lt H12.out a.block (by rw [ha]; rfl)).1; omega
      have e12 : ∀ x ∈ o10 ++ [(⟨v.t.at T, ra11, rc11, wa11, wc11⟩ : TxV)], TxW w12 x ∧ (∀ a, x.ra = some a → w.heap.size + 4 < a.block) ∧ ∀ a, x.wa = some a → w.heap.size + 4 < a.block := fun x hx => by
        have hxo : TxO w12 w9.heap.size (Value.slice A12 (L.op.length + 1) c12).ownBlock x := by
          rcases List.mem_append.1 hx with hx | hx
          · exact ((E11.out x hx).then_ hal).grown G12.out Q12.out
          · obtain rfl : x = ⟨v.t.at T, ra11, rc11, wa11, wc11⟩ := by simpa using hx
            exact ((TxO.mk_ X11.out P11.out Q11.out hs10 (fun k hk => (World.ownsRow.lt O10.out k hk).2)).then_ hal).grown G12.out Q12.out
        exact ⟨hxo.tx, fun a ha => by have := (hxo.r a ha).1; omega, fun a ha => by have := (hxo.s a ha).1; omega⟩
      have xv := (X8.out.then_ (thenB (thenB ((Below.refl W8.heap.size W8).drew.trans hb9) hb10) hb11)).then_ hal
      have hx : TxW w12 ⟨v.t.at T, ra7, rc7, wa7, wc7⟩ ∧ (∀ a, ra7 = some a → w.heap.size + 4 < a.block) ∧ ∀ a, wa7 = some a → w.heap.size + 4 < a.block := ⟨⟨Rd.grown xv.r RW12.out.2.1 G12.out, Rd.grown xv.s RW12.out.2.2 G12.out, xv.rl, xv.rm, xv.wl, xv.wm⟩, RV3.out.1, RV3.out.2⟩
      have X := stamp_last (v8 := ⟨v.t.at T, ra7, rc7, wa7, wc7⟩) K12.out h9 r9 l9 m9 h12 r12 e12 (n := L.op.length + 1) (by simp [N10.out]) l12 m12 hx (R := stampS L.d v.t lo hi) (T := T) (by rw [HQ.out, ← T10.out]; simp [txs])
      have XH := hide X
      clear X h9 r9 h12 r12 e12 xv hx hal
      go_wp2_with fail
      refine bodyPost_ret (results_bb1 rfl _ _ (w.heap.size + 3) (w.heap.size + 4) 25 29 _ _ _ _ rfl rfl XH.out.1 XH.out.2.1 Try.underlying25 Try.underlying29 rfl rfl (by kernel_rfl) (by kernel_rfl)) rfl ?_
      exact XH.out.2.2
end Go.Proofs.Ytficjpfhakggmaa
