/-
  The walk of the reference's Stamp behind its first tests.
-/
import Derived.Test.YtficjpfhakggmaaRt34
namespace Go.Proofs.Ytficjpfhakggmaa
open Go.RowKit Go.Maps
set_option maxHeartbeats 32000000 in
set_option maxRecDepth 100000 in
theorem rstamp_main (L : LdV) (v : TxV) (lo hi : Int) (w : World) (hs : LdS L) (hv : v.t.reads.length ≤ 100 ∧ v.t.writes.length ≤ 100) (h : LdW w L) (h' : TxW w v) (q1 : L.ok = true) (q2 : ivB lo hi = true) (q3 : formB v.t = true) (q4 : v.t.ts = 0)
    (RC : v.t.reads.any (oldS (newestLS L.d)) = true ∧ stampS L.d v.t lo hi = (LD.zero, Tx.zero, 60) ∨ v.t.reads.any (oldS (newestLS L.d)) = false ∧ (L.d.op.length = 2000 ∧ stampS L.d v.t lo hi = (LD.zero, Tx.zero, 2) ∨ L.d.op.length ≠ 2000 ∧ (4000 < L.d.st.length + wlen L.d.op + v.t.writes.length ∧ stampS L.d v.t lo hi = (LD.zero, Tx.zero, 2) ∨ L.d.st.length + wlen L.d.op + v.t.writes.length ≤ 4000 ∧
        (3000000000000000 < max (L.d.last + 1) hi ∧ stampS L.d v.t lo hi = (LD.zero, Tx.zero, 3) ∨ max (L.d.last + 1) hi ≤ 3000000000000000 ∧ stampS L.d v.t lo hi = (⟨max (L.d.last + 1) hi, L.d.st, L.d.op ++ [v.t.at (max (L.d.last + 1) hi)]⟩, v.t.at (max (L.d.last + 1) hi), 0))))) :
    Calls Try.prog 15 #[.agg #[.int .i64 L.last, .slice L.sa L.st.length L.sc, .slice L.oa L.op.length L.oc], .agg #[.int .i64 v.t.id, .int .i64 v.t.ts, .slice v.ra v.t.reads.length v.rc, .slice v.wa v.t.writes.length v.wc], .agg #[.int .i64 lo, .int .i64 hi]] w (RetLXE w (stampS L.d v.t lo hi)) := by
  have V := hide fun W (s : LdW W L) => rlv_any L W hs s
  have I := hide fun W => rIv_any lo hi W
  have FM := hide fun W (s : TxW W v) => rTx_any v W hv s
  have HL := hide h
  have HT := hide h'
  have HS := hide hs
  have K0 := hide (StK.new (w := w) (tl := 25) (tt := 29) (ti := 31) (L := L) (v := v) (lo := lo) (hi := hi))
  have NW := hide fun (k : Int) W (s : Below w.heap.size w W) => rNewL_any L k W hs (h.then_ s)
  have hts : (v.t.ts != 0) = false := by simp [q4]
  have OK := hide (show leadB L.last L.st (txs L.op) = true from q1)
  have FK := hide q3
  have LO := hide (ivB_bd q2)
  have HRC := hide RC
  have hrl := hv.1
  rw [q1] at V
  rw [q2] at I
  rw [q3] at FM
  clear h hs h' q1 q2 q3 q4 RC
  go_enter Try.func15, Try.ntmps15
  go_wp2_with (first
    | (go_at_call 17; refine (V.out _ (HL.out.then_ K0.out.b)).mono ?_; rintro e w1 ⟨rfl, hb⟩; have K1 := hide (K0.out.then_ hb); clear hb; (try clear kc); have kc := K1.out.c; unfold StC at kc)
    | (go_at_call 29; refine (I.out _).mono ?_; rintro e w2 ⟨rfl, hb⟩; have K2 := hide (K1.out.then_ hb); clear hb; (try clear kc); have kc := K2.out.c; unfold StC at kc)
    | (go_at_call 31; refine (FM.out _ (HT.out.then_ K2.out.b)).mono ?_; rintro e w3 ⟨rfl, hb⟩; have K3 := hide (K2.out.then_ hb); clear hb; (try clear kc); have kc := K3.out.c; unfold StC at kc))
  have K3' := K3
  clear kc
  go_loopw [12] (fun u12 wr => ∃ k : Nat, k ≤ v.t.reads.length ∧ u12 = .int .i64 k ∧ (∀ j (hj : j < v.t.reads.length), j < k → oldS (newestLS L.d) v.t.reads[j] = false) ∧ StK w wr 25 29 31 L v lo hi) (fun u12 _ => v.t.reads.length - (intOf u12).toNat)
  case atStart => exact ⟨0, Nat.zero_le _, rfl, fun j _ hj => by omega, K3'.out⟩
  case round =>
    clear K3 K3'
    obtain ⟨k, hk, rfl, hall, hkk⟩ := hrel
    have HA := hide hall
    have KR := hide hkk
    clear hall hkk
    have kc := KR.out.c
    unfold StC at kc
    by_cases hlt : k < v.t.reads.length
    · obtain ⟨b, o, hra, hbl, hc⟩ := SnS.at_ (HT.out.r.then_ KR.out.b) hlt
      have s0 := hc k hlt
      have NO0 : ∀ x, x = v.t.reads[k] → oldS (newestLS L.d) x = true → v.t.reads.any (oldS (newestLS L.d)) = true := fun x hx hq => List.any_eq_true.2 ⟨x, by rw [hx]; exact List.getElem_mem _, hq⟩
      have NO := hide NO0
      obtain ⟨x, hx⟩ : ∃ x, x = v.t.reads[k] := ⟨_, rfl⟩
      rw [← hx] at s0
      have HX := hide hx
      have HRA := hide hra
      have S0 := hide (And.intro s0 hbl)
      have X0 := NW.out x.key
      obtain ⟨c, hcx⟩ : ∃ c, c = newestLS L.d x.key := ⟨_, rfl⟩
      rw [← hcx] at X0
      have NX := hide X0
      have hqc : oldS (newestLS L.d) x = (c != x.ts) := by rw [hcx]; rfl
      have QC := hide hqc
      have hi1 : (k : Int) < v.t.reads.length := by omega
      have hi2 : (0 : Int) ≤ k := by omega
      rw [hra] at kc
      unfold SnAt at s0
      clear hc NO0 hx hra hcx hqc X0
      go_wp2_with fail
      cases hq : (c != x.ts)
      all_goals
        have HQ := hide hq
        go_region_held3 (fun w' => (StK w w' 25 29 31 L v lo hi ∧ (w'.cell? ⟨w.heap.size, 0, none⟩ = some (.int .i64 L.last) ∧ w'.cell? ⟨w.heap.size, 1, none⟩ = some (.slice L.sa L.st.length L.sc) ∧ w'.cell? ⟨w.heap.size, 2, none⟩ = some (.slice L.oa L.op.length L.oc)) ∧ w'.cell? ⟨w.heap.size + 1, 2, none⟩ = some (.slice (some ⟨b, o, none⟩) v.t.reads.length v.rc)) ∧ (w'.cell? ⟨b, o + k * 2, none⟩ = some (.int .i64 x.key) ∧ w'.cell? ⟨b, o + k * 2 + 1, none⟩ = some (.int .i64 x.ts)))
          (first
            | exact ⟨StN.of (s := x) (KR.out.then_ (Below.refl _ _).drew) HRA.out, S0.out.1.below ((Below.refl _ _).drew) S0.out.2⟩
            | exact ⟨StN.of (s := x) (StK.then_ KR.out (by assumption)) HRA.out, S0.out.1.below (by assumption) S0.out.2⟩
            | fail "no keep")
          (first
            | (go_at_call 52; (with_reducible refine (NX.out _ (StK.b (And.left (And.left (by assumption))))).mono ?_); rintro e w4 ⟨rfl, hb4⟩; have hb5 : Below wr.heap.size wr w4 := (Below.refl _ _).drew.trans hb4; have K4 := hide (KR.out.then_ hb5); have kd := K4.out.d; unfold StD at kd)
            | fail "no arm")
        go_wp2
      · go_roundw
        case rel => exact ⟨k + 1, by omega, by go_num, fun j h1 hj => (by rcases Nat.lt_succ_iff_lt_or_eq.1 hj with hj | rfl; exact HA.out j h1 hj; rw [← HX.out, QC.out]; exact HQ.out), K4.out⟩
        case measure => simp [intOf]; omega
      · have HP : Hid (stampS L.d v.t lo hi = (LD.zero, Tx.zero, 60)) := hide (by
          have h1 := NO.out x HX.out (by rw [QC.out]; exact HQ.out)
          rcases HRC.out with ⟨_, hr⟩ | ⟨h2, _⟩
          · exact hr
          · rw [h1] at h2; cases h2)
        have X := stW_out K4.out.b K4.out.k3 K4.out.k4 (.int .i64 0) (.slice none 0 0) (.slice none 0 0) (.int .i64 0) (.int .i64 0) (.slice none 0 0) (.slice none 0 0)
        refine bodyPost_ret (results_bb1 rfl _ _ (w.heap.size + 3) (w.heap.size + 4) 25 29 _ _ _ _ rfl rfl X.1 X.2.1 Try.underlying25 Try.underlying29 rfl rfl (by kernel_rfl) (by kernel_rfl)) rfl ?_
        exact RetLXE.fail HP.out X.2.2
    · have hany : v.t.reads.any (oldS (newestLS L.d)) = false := by
        rw [List.any_eq_false]
        intro s hs
        obtain ⟨j, hj, rfl⟩ := List.getElem_of_mem hs
        rw [HA.out j hj (by omega)]
        simp
      rcases HRC.out with ⟨h1, _⟩ | ⟨_, RC⟩
      · rw [hany] at h1; cases h1
      have hfl := (form_len FK.out).2
      have hsm := lead_small OK.out
      have hop : L.d.op.length = L.op.length := txs_len _
      rw [hop] at RC
      clear HRC hany hop
      rcases RC with ⟨q6, hr⟩ | ⟨q6, RC⟩
      · have HP := hide hr
        have d6 : ((L.op.length : Int) == 2000) = true := by rw [q6]; rfl
        clear hr q6
        go_wp2_with fail
        try go_step3
        try (go_wp2_with fail)
        have kf := fun x : Fut wr.heap.size wr => (KR.out.then_ x.h).c
        unfold StC at kf
        refine wp_region_fut wr.heap.size (by kernel_rfl) (by kernel_rfl) ?_
        repeat (go_big_quiet_step ((first | fail)))
        refine wpQuiet_nil ?_
        intro w6 hq'; have hb6 := Fut.of hq'; clear hq'
        have K6 := hide (KR.out.then_ hb6)
        clear kf kc hb6
        have kd := K6.out.d
        unfold StD at kd
        go_wp2
        have X := stW_out K6.out.b K6.out.k3 K6.out.k4 (.int .i64 0) (.slice none 0 0) (.slice none 0 0) (.int .i64 0) (.int .i64 0) (.slice none 0 0) (.slice none 0 0)
        refine bodyPost_ret (results_bb1 rfl _ _ (w.heap.size + 3) (w.heap.size + 4) 25 29 _ _ _ _ rfl rfl X.1 X.2.1 Try.underlying25 Try.underlying29 rfl rfl (by kernel_rfl) (by kernel_rfl)) rfl ?_
        exact RetLXE.fail HP.out X.2.2
      · have d6 : ((L.op.length : Int) == 2000) = false := by simp; omega
        obtain ⟨m, hm⟩ : ∃ m, m = wlen (txs L.op) := ⟨_, rfl⟩
        have VN := hide fun W (s : Below w.heap.size w W) => rVersions_any L.oa L.oc L.op W HS.out.small (HL.out.o.then_ s)
        change (4000 < L.st.length + wlen (txs L.op) + v.t.writes.length ∧ _) ∨ (L.st.length + wlen (txs L.op) + v.t.writes.length ≤ 4000 ∧ _) at RC
        rw [← hm] at VN RC hsm
        have d7v : IntKind.i64.wrap ((L.st.length : Int) + (m : Int)) = (L.st.length : Int) + m := IntWalk.i64_in _ (by omega)
        have d7w : IntKind.i64.wrap ((L.st.length : Int) + (m : Int) + (v.t.writes.length : Int)) = (L.st.length : Int) + m + v.t.writes.length := IntWalk.i64_in _ (by omega)
        clear q6 hm
        have K6 := hide (KR.out.then_ (Below.refl wr.heap.size wr).drew)
        rcases RC with ⟨q7, hr⟩ | ⟨q7, RC⟩
        · have HP := hide hr
          have d7 : decide ((4000 : Int) < (L.st.length : Int) + (m : Int) + (v.t.writes.length : Int)) = true := decide_eq_true (by omega)
          clear hr q7
          go_wp2_with fail
          try go_step3
          try (go_wp2_with fail)
          go_region_held3 (fun w' => StK w w' 25 29 31 L v lo hi ∧ (w'.cell? ⟨w.heap.size, 0, none⟩ = some (.int .i64 L.last) ∧ w'.cell? ⟨w.heap.size, 1, none⟩ = some (.slice L.sa L.st.length L.sc) ∧ w'.cell? ⟨w.heap.size, 2, none⟩ = some (.slice L.oa L.op.length L.oc)) ∧ w'.cell? ⟨w.heap.size + 1, 3, none⟩ = some (.slice v.wa v.t.writes.length v.wc))
            (first | with_reducible exact stk_all K6.out | with_reducible assumption | fail "no keep")
            (first | (go_at_call 53; (with_reducible refine (VN.out _ (StK.b (And.left (by assumption)))).mono ?_); rintro e w6 ⟨rfl, rfl⟩) | fail "no arm")
          have k6 := K6.out
          clear K6 kc
          generalize wr.drew = W6 at k6 ⊢
          have K6 := hide k6
          clear k6
          have kd := K6.out.d
          unfold StD at kd
          go_wp2
          have X := stW_out K6.out.b K6.out.k3 K6.out.k4 (.int .i64 0) (.slice none 0 0) (.slice none 0 0) (.int .i64 0) (.int .i64 0) (.slice none 0 0) (.slice none 0 0)
          refine bodyPost_ret (results_bb1 rfl _ _ (w.heap.size + 3) (w.heap.size + 4) 25 29 _ _ _ _ rfl rfl X.1 X.2.1 Try.underlying25 Try.underlying29 rfl rfl (by kernel_rfl) (by kernel_rfl)) rfl ?_
          exact RetLXE.fail HP.out X.2.2
        · have d7 : decide ((4000 : Int) < (L.st.length : Int) + (m : Int) + (v.t.writes.length : Int)) = false := decide_eq_false (by omega)
          clear q7
          change (3000000000000000 < max (L.last + 1) hi ∧ _) ∨ (max (L.last + 1) hi ≤ 3000000000000000 ∧ stampS L.d v.t lo hi = (⟨max (L.last + 1) hi, L.st, txs L.op ++ [v.t.at (max (L.last + 1) hi)]⟩, v.t.at (max (L.last + 1) hi), 0)) at RC
          obtain ⟨T, hT⟩ : ∃ T, T = max (L.last + 1) hi := ⟨_, rfl⟩
          rw [← hT] at RC
          have hT2 : 0 ≤ T ∧ T ≤ 3000000000000001 := by have := LO.out; omega
          have HPP := hide RC
          have hmx : (if L.last + 1 < hi then hi else L.last + 1) = T := by rw [hT]; split <;> omega
          clear RC hT
          go_wp2_with fail
          try go_step3
          try (go_wp2_with fail)
          go_region_held3 (fun w' => StK w w' 25 29 31 L v lo hi ∧ (w'.cell? ⟨w.heap.size, 0, none⟩ = some (.int .i64 L.last) ∧ w'.cell? ⟨w.heap.size, 1, none⟩ = some (.slice L.sa L.st.length L.sc) ∧ w'.cell? ⟨w.heap.size, 2, none⟩ = some (.slice L.oa L.op.length L.oc)) ∧ w'.cell? ⟨w.heap.size + 1, 3, none⟩ = some (.slice v.wa v.t.writes.length v.wc))
            (first | with_reducible exact stk_all K6.out | with_reducible assumption | fail "no keep")
            (first | (go_at_call 53; (with_reducible refine (VN.out _ (StK.b (And.left (by assumption)))).mono ?_); rintro e w6 ⟨rfl, rfl⟩) | fail "no arm")
          have k6 := K6.out
          clear K6 kc
          generalize wr.drew = W6 at k6 ⊢
          have K6 := hide k6
          clear k6
          have kd := K6.out.k1.frozen
          have kc6 := K6.out.c
          unfold StC at kc6
          go_upto_region 14 with fail
          have k8 := K6.out.ts T
          generalize W6.setCell ⟨w.heap.size + 1, 1, none⟩ (.int .i64 T) = W8 at k8 ⊢
          have K8 := hide k8
          clear k8 kd kc6
          have kc0 := K8.out.c
          have kc : StC W8 w.heap.size L ⟨v.t.at T, v.ra, v.rc, v.wa, v.wc⟩ lo hi := kc0
          unfold StC at kc
          dsimp only [Tx.at] at kc
          clear kc0
          rcases HPP.out with ⟨q8, hr⟩ | ⟨q8, hr⟩
          · have HQ := hide hr
            have d8 : decide ((3000000000000000 : Int) < T) = true := decide_eq_true q8
            have kd := K8.out.d
            unfold StD at kd
            clear hr q8
            go_wp2
            have X := stW_out K8.out.b K8.out.k3 K8.out.k4 (.int .i64 0) (.slice none 0 0) (.slice none 0 0) (.int .i64 0) (.int .i64 0) (.slice none 0 0) (.slice none 0 0)
            refine bodyPost_ret (results_bb1 rfl _ _ (w.heap.size + 3) (w.heap.size + 4) 25 29 _ _ _ _ rfl rfl X.1 X.2.1 Try.underlying25 Try.underlying29 rfl rfl (by kernel_rfl) (by kernel_rfl)) rfl ?_
            exact RetLXE.fail HQ.out X.2.2
          · have HQ := hide hr
            have d8 : decide ((3000000000000000 : Int) < T) = false := decide_eq_false (by omega)
            clear hr q8
            obtain ⟨i0, hi0, hz0, hz1, hz2⟩ := info_parts infoTx
            have hlo : L.op.length ≤ 2000 := by have := HS.out.small.len; rw [txs_len] at this; exact this
            have S8 := hide (show StY w W8 L v T from ⟨⟨K8.out.b, K8.out.lt⟩, ⟨K8.out.c.1.2.1, K8.out.c.1.2.2⟩, K8.out.c.2.1⟩)
            go_upto_region 16 with fail
            go_region_held3 (fun w' => (Below w.heap.size w w' ∧ w.heap.size + 4 < w'.heap.size) ∧ (w'.cell? ⟨w.heap.size, 1, none⟩ = some (.slice L.sa L.st.length L.sc) ∧ w'.cell? ⟨w.heap.size, 2, none⟩ = some (.slice L.oa L.op.length L.oc)) ∧ (w'.cell? ⟨w.heap.size + 1, 0, none⟩ = some (.int .i64 v.t.id) ∧ w'.cell? ⟨w.heap.size + 1, 1, none⟩ = some (.int .i64 T) ∧ w'.cell? ⟨w.heap.size + 1, 2, none⟩ = some (.slice v.ra v.t.reads.length v.rc) ∧ w'.cell? ⟨w.heap.size + 1, 3, none⟩ = some (.slice v.wa v.t.writes.length v.wc)))
              (first
                | with_reducible exact StY.set4 (by assumption)
                | with_reducible exact StY.set3 (by assumption)
                | with_reducible exact StY.drew S8.out
                | with_reducible exact StY.drew (StY.alloc S8.out _)
                | with_reducible exact StY.drew (StY.alloc (StY.alloc S8.out _) _)
                | with_reducible exact StY.alloc (by assumption) _
                | with_reducible exact StY.grow G12.out RW12.out (by assumption)
                | with_reducible exact StY.grow G11.out RW11.out (by assumption)
                | fail "no keep")
              (first
                | (refine step_append_rd rfl _ _ 23 (by rfl) W8.heap.size 29 i0 _ 4 64 Try.underlying23 hi0 hz0 hz1 hz2 rfl (by decide) (.slice (some ⟨W8.heap.size, 0, none⟩) 0 0) 0 [] (by rfl) ?_ L.oa L.op.length L.oc (L.op.flatMap TxV.cells) (by rfl) (by rw [flat_len TxV.cells 4 TxV.len]) ?_ (tx_one L.op) (by simp only [maxLen]; omega) (by omega) ?_ ?_; (with_reducible exact ap_own_x W8); (exact HL.out.o.row.then_ (And.left (And.left (by assumption)))); (exact (Below.size (((Below.refl _ W8).alloc (Nat.le_refl _) (.cells #[] 29)).drew))); intro v11 w11 hown11 hg11 hr11; rw [Nat.zero_add, List.nil_append] at hown11; obtain ⟨A11, c11, rfl, l11, m11, rd11⟩ := own_form hown11; have H11 := hide hown11; have G11 := hide hg11; have kk := ap_k K8.out (((Below.refl _ W8).alloc (Nat.le_refl _) (.cells #[] 29)).drew) hg11 (Nat.le_refl _); have K11 := hide kk.1; have hs11 := kk.2.1; have RW11 := hide kk.2.2; clear hown11 hg11 hr11 rd11 kk)
                | (refine step_append_rd rfl _ _ 23 (by rfl) W8.heap.size 29 i0 _ 4 64 Try.underlying23 hi0 hz0 hz1 hz2 rfl (by decide) (.slice (some ⟨W8.heap.size, 0, none⟩) 0 0) 0 [] (by rfl) ?_ L.oa L.op.length L.oc (L.op.flatMap TxV.cells) (by rfl) (by rw [flat_len TxV.cells 4 TxV.len]) ?_ (tx_one L.op) (by simp only [maxLen]; omega) (by omega) ?_ ?_; (with_reducible exact ap_own_y W8 (.cells #[.int .i64 v.t.id, .int .i64 T, .slice v.ra v.t.reads.length v.rc, .slice v.wa v.t.writes.length v.wc] 29)); (exact HL.out.o.row.then_ (And.left (And.left (by assumption)))); (exact (Below.size ((((Below.refl _ W8).alloc (Nat.le_refl _) (.cells #[] 29)).alloc (by simp) (.cells #[.int .i64 v.t.id, .int .i64 T, .slice v.ra v.t.reads.length v.rc, .slice v.wa v.t.writes.length v.wc] 29)).drew))); intro v11 w11 hown11 hg11 hr11; rw [Nat.zero_add, List.nil_append] at hown11; obtain ⟨A11, c11, rfl, l11, m11, rd11⟩ := own_form hown11; have H11 := hide hown11; have G11 := hide hg11; have kk := ap_k K8.out ((((Below.refl _ W8).alloc (Nat.le_refl _) (.cells #[] 29)).alloc (by simp) (.cells #[.int .i64 v.t.id, .int .i64 T, .slice v.ra v.t.reads.length v.rc, .slice v.wa v.t.writes.length v.wc] 29)).drew) hg11 (Nat.le_refl _); have K11 := hide kk.1; have hs11 := kk.2.1; have RW11 := hide kk.2.2; have R11 := hide (ap_rd_y W8 w11 #[.int .i64 v.t.id, .int .i64 T, .slice v.ra v.t.reads.length v.rc, .slice v.wa v.t.writes.length v.wc] hg11); clear hown11 hg11 hr11 rd11 kk)
                | (refine step_append_rd rfl _ _ 23 (by rfl) W8.heap.size 29 i0 _ 4 64 Try.underlying23 hi0 hz0 hz1 hz2 rfl (by decide) (.slice (some ⟨W8.heap.size + 1, 0, none⟩) 0 0) 0 [] (by rfl) ?_ L.oa L.op.length L.oc (L.op.flatMap TxV.cells) (by rfl) (by rw [flat_len TxV.cells 4 TxV.len]) ?_ (tx_one L.op) (by simp only [maxLen]; omega) (by omega) ?_ ?_; (with_reducible exact ap_own_z W8 (.cells #[.int .i64 v.t.id, .int .i64 T, .slice v.ra v.t.reads.length v.rc, .slice v.wa v.t.writes.length v.wc] 29)); (exact HL.out.o.row.then_ (And.left (And.left (by assumption)))); (exact (Below.size ((((Below.refl _ W8).alloc (Nat.le_refl _) (.cells #[.int .i64 v.t.id, .int .i64 T, .slice v.ra v.t.reads.length v.rc, .slice v.wa v.t.writes.length v.wc] 29)).alloc (by simp) (.cells #[] 29)).drew))); intro v11 w11 hown11 hg11 hr11; rw [Nat.zero_add, List.nil_append] at hown11; obtain ⟨A11, c11, rfl, l11, m11, rd11⟩ := own_form hown11; have H11 := hide hown11; have G11 := hide hg11; have kk := ap_k K8.out ((((Below.refl _ W8).alloc (Nat.le_refl _) (.cells #[.int .i64 v.t.id, .int .i64 T, .slice v.ra v.t.reads.length v.rc, .slice v.wa v.t.writes.length v.wc] 29)).alloc (by simp) (.cells #[] 29)).drew) hg11 (Nat.le_succ _); have K11 := hide kk.1; have hs11 := kk.2.1; have RW11 := hide kk.2.2; have R11 := hide (ap_rd_z W8 w11 #[.int .i64 v.t.id, .int .i64 T, .slice v.ra v.t.reads.length v.rc, .slice v.wa v.t.writes.length v.wc] hg11); clear hown11 hg11 hr11 rd11 kk)
                | (refine step_append_rd rfl _ _ 23 (by rfl) W8.heap.size 29 i0 _ 4 64 Try.underlying23 hi0 hz0 hz1 hz2 rfl (by decide) (.slice A11 L.op.length c11) L.op.length (L.op.flatMap TxV.cells) (by rfl) ?_ (some ⟨w11.heap.size, 0, none⟩) 1 1 (TxV.cells ⟨v.t.at T, v.ra, v.rc, v.wa, v.wc⟩) (by rfl) rfl ?_ (by simpa using tx_one [⟨v.t.at T, v.ra, v.rc, v.wa, v.wc⟩]) (by simp only [maxLen]; omega) (by omega) ?_ ?_; (exact own_below H11.out ((Below.refl _ _).alloc (Nat.le_refl _) _)); (exact Rd.new_row _ _ _); (exact (by rw [World.size_alloc]; omega)); intro v12 w12 hown12 hg12 hr12; obtain ⟨A12, c12, rfl, l12, m12, rd12⟩ := own_form hown12; have H12 := hide hown12; have G12 := hide hg12; have D12 := hide rd12; have RW12 := hide (show ∀ k, (Value.slice A11 L.op.length c11).ownBlock = some k → w.heap.size + 4 < k from fun k hk => by have h1 : W8.heap.size ≤ k := (World.ownsRow.lt H11.out k hk).1; have := K8.out.lt; omega); have K12 := hide ((K11.out.then_ ((Below.refl _ _).alloc (Nat.le_refl _) _)).grown hg12 RW12.out); clear hown12 hg12 hr12 rd12; have kd := K12.out.d; unfold StD at kd)
                | (refine step_append_rd rfl _ _ 23 (by rfl) W8.heap.size 29 i0 _ 4 64 Try.underlying23 hi0 hz0 hz1 hz2 rfl (by decide) (.slice A11 L.op.length c11) L.op.length (L.op.flatMap TxV.cells) (by rfl) ?_ (some ⟨W8.heap.size + 1, 0, none⟩) 1 1 (TxV.cells ⟨v.t.at T, v.ra, v.rc, v.wa, v.wc⟩) (by rfl) rfl ?_ (by simpa using tx_one [⟨v.t.at T, v.ra, v.rc, v.wa, v.wc⟩]) (by simp only [maxLen]; omega) (by omega) ?_ ?_; (exact H11.out); (exact R11.out); (exact hs11); intro v12 w12 hown12 hg12 hr12; obtain ⟨A12, c12, rfl, l12, m12, rd12⟩ := own_form hown12; have H12 := hide hown12; have G12 := hide hg12; have D12 := hide rd12; have RW12 := hide (show ∀ k, (Value.slice A11 L.op.length c11).ownBlock = some k → w.heap.size + 4 < k from fun k hk => by have h1 : W8.heap.size ≤ k := (World.ownsRow.lt H11.out k hk).1; have := K8.out.lt; omega); have K12 := hide (K11.out.grown hg12 RW12.out); clear hown12 hg12 hr12 rd12; have kd := K12.out.d; unfold StD at kd)
                | (refine step_append_rd rfl _ _ 23 (by rfl) W8.heap.size 29 i0 _ 4 64 Try.underlying23 hi0 hz0 hz1 hz2 rfl (by decide) (.slice A11 L.op.length c11) L.op.length (L.op.flatMap TxV.cells) (by rfl) ?_ (some ⟨W8.heap.size, 0, none⟩) 1 1 (TxV.cells ⟨v.t.at T, v.ra, v.rc, v.wa, v.wc⟩) (by rfl) rfl ?_ (by simpa using tx_one [⟨v.t.at T, v.ra, v.rc, v.wa, v.wc⟩]) (by simp only [maxLen]; omega) (by omega) ?_ ?_; (exact H11.out); (exact R11.out); (exact hs11); intro v12 w12 hown12 hg12 hr12; obtain ⟨A12, c12, rfl, l12, m12, rd12⟩ := own_form hown12; have H12 := hide hown12; have G12 := hide hg12; have D12 := hide rd12; have RW12 := hide (show ∀ k, (Value.slice A11 L.op.length c11).ownBlock = some k → w.heap.size + 4 < k from fun k hk => by have h1 : W8.heap.size ≤ k := (World.ownsRow.lt H11.out k hk).1; have := K8.out.lt; omega); have K12 := hide (K11.out.grown hg12 RW12.out); clear hown12 hg12 hr12 rd12; have kd := K12.out.d; unfold StD at kd)
                | fail "no arm")
            all_goals
              have h12 : RS TxV.cells w12 A12 (L.op ++ [⟨v.t.at T, v.ra, v.rc, v.wa, v.wc⟩]) := by
                unfold RS
                rw [List.flatMap_append]
                simpa using D12.out
              have r12 : ∀ a, A12 = some a → w.heap.size + 4 < a.block := fun a ha => by have h1 : W8.heap.size ≤ a.block := (World.ownsRow.lt H12.out a.block (by rw [ha]; rfl)).1; have := K8.out.lt; omega
              have XH := hide (rstamp_last HL.out HT.out K12.out h12 r12 rfl l12 m12 HQ.out)
              clear h12 r12
              go_wp2_with fail
              refine bodyPost_ret (results_bb1 rfl _ _ (w.heap.size + 3) (w.heap.size + 4) 25 29 _ _ _ _ rfl rfl XH.out.1 XH.out.2.1 Try.underlying25 Try.underlying29 rfl rfl (by kernel_rfl) (by kernel_rfl)) rfl ?_
              exact XH.out.2.2
end Go.Proofs.Ytficjpfhakggmaa
