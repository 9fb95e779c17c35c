/-
  The walk of the law CommitMatchesReference.
-/
import Derived.Test.YtcofkflihleckaaLk34
namespace Go.Proofs.Ytcofkflihleckaa
open Go.RowKit Go.Maps
set_option maxHeartbeats 32000000 in
set_option maxRecDepth 100000 in
theorem lmatch_any (L : LdV) (v : TxV) (key ts lo hi : Int) (w : World) (h : LdW w L) (h' : TxW w v) :
    Calls Try.prog 3 #[.agg #[.int .i64 L.last, .slice L.sa L.st.length L.sc, .slice L.oa L.op.length L.oc], .agg #[.int .i64 v.t.id, .int .i64 v.t.ts, .slice v.ra v.t.reads.length v.rc, .slice v.wa v.t.writes.length v.wc], .int .i64 key, .int .i64 ts, .agg #[.int .i64 lo, .int .i64 hi]] w fun e w' => e = .returned (.bool true) ∧ Below w.heap.size w w' := by
  have HD := hide head34_any
  have FE := hide fun W (s : LdW W L) => few_any L W s
  have FT := hide fun A c W (s : TS W A [v]) (hc : 1 ≤ c) (hm : c ≤ maxLen) => fewTxs_any A c [v] W hc hm s
  have LL := hide h
  have XX := hide h'
  obtain ⟨fl, hfl⟩ : ∃ x, x = fewLB L.d := ⟨_, rfl⟩
  obtain ⟨ft, hft⟩ : ∃ x, x = fewTB [v.t] := ⟨_, rfl⟩
  rw [← hfl] at FE
  change Hid (∀ A c W, TS W A [v] → 1 ≤ c → c ≤ maxLen → Calls Try.prog 12 #[.slice A 1 c] W fun e w' => e = .returned (.bool (fewTB [v.t])) ∧ W = w') at FT
  rw [← hft] at FT
  have HFL := hide hfl
  have HFT := hide hft
  clear h h' hfl hft
  cases fl
  · go_enter Try.func3, Try.ntmps3
    go_upto_region 1 with fail
    have BB := hide (Below.refl w.heap.size w)
    obtain ⟨W0, hW0⟩ : ∃ W, W = (((w.alloc (.cells #[.int .i64 L.last, .slice L.sa L.st.length L.sc, .slice L.oa L.op.length L.oc] 25)).alloc (.cells #[.int .i64 v.t.id, .int .i64 v.t.ts, .slice v.ra v.t.reads.length v.rc, .slice v.wa v.t.writes.length v.wc] 29)).alloc (.cells #[.int .i64 lo, .int .i64 hi] 31)) := ⟨_, rfl⟩
    have qKL : Blk W0 (w.heap.size) 25 #[.int .i64 L.last, .slice L.sa L.st.length L.sc, .slice L.oa L.op.length L.oc] := by
      have hh := (Blk.new w 25 #[.int .i64 L.last, .slice L.sa L.st.length L.sc, .slice L.oa L.op.length L.oc])
      (repeat rw [World.size_alloc] at hh)
      rw [hW0]; exact ((hh.alloc _).alloc _)
    have qKT : Blk W0 (w.heap.size + 1) 29 #[.int .i64 v.t.id, .int .i64 v.t.ts, .slice v.ra v.t.reads.length v.rc, .slice v.wa v.t.writes.length v.wc] := by
      have hh := (Blk.new (w.alloc (.cells #[.int .i64 L.last, .slice L.sa L.st.length L.sc, .slice L.oa L.op.length L.oc] 25)) 29 #[.int .i64 v.t.id, .int .i64 v.t.ts, .slice v.ra v.t.reads.length v.rc, .slice v.wa v.t.writes.length v.wc])
      (repeat rw [World.size_alloc] at hh)
      rw [hW0]; exact (hh.alloc _)
    have qKI : Blk W0 (w.heap.size + 2) 31 #[.int .i64 lo, .int .i64 hi] := by
      have hh := (Blk.new ((w.alloc (.cells #[.int .i64 L.last, .slice L.sa L.st.length L.sc, .slice L.oa L.op.length L.oc] 25)).alloc (.cells #[.int .i64 v.t.id, .int .i64 v.t.ts, .slice v.ra v.t.reads.length v.rc, .slice v.wa v.t.writes.length v.wc] 29)) 31 #[.int .i64 lo, .int .i64 hi])
      (repeat rw [World.size_alloc] at hh)
      rw [hW0]; exact hh
    have qA : Below w.heap.size w W0 := by rw [hW0]; exact ((((Below.refl w.heap.size w).alloc (by (try simp); (try omega)) _).alloc (by (try simp); (try omega)) _).alloc (by (try simp); (try omega)) _)
    have qB := thenB BB.out qA
    have qLL := LL.out.then_ qA
    have qXX := XX.out.then_ qA
    have QSW0 := hide (show W0.heap.size = w.heap.size + 3 by rw [hW0]; simp)
    rw [← hW0]
    clear hW0 qA LL XX BB
    have KL := hide qKL
    have KT := hide qKT
    have KI := hide qKI
    have LL := hide qLL
    have XX := hide qXX
    have BB := hide qB
    clear qKL qKT qKI qLL qXX qB
    go_upto_region 2 with (go_at_call 10; refine (HD.out _).mono ?_; rintro e w1 ⟨rfl, hb⟩; have qKL := KL.out.below hb KL.out.lt; have qKT := KT.out.below hb KT.out.lt; have qKI := KI.out.below hb KI.out.lt; have qLL := LL.out.then_ hb; have qXX := XX.out.then_ hb; have qB := thenB BB.out hb; clear KL KT KI LL XX BB hb; have KL := hide qKL; have KT := hide qKT; have KI := hide qKI; have LL := hide qLL; have XX := hide qXX; have BB := hide qB; clear qKL qKT qKI qLL qXX qB)
    have cKL := KL.out.cell
    have cKT := KT.out.cell
    go_wp2_with (go_at_call 11; refine (FE.out _ LL.out).mono ?_; rintro e w2 ⟨rfl, hb⟩; clear cKL cKT; have qKL := KL.out.below hb KL.out.lt; have qKT := KT.out.below hb KT.out.lt; have qKI := KI.out.below hb KI.out.lt; have qLL := LL.out.then_ hb; have qXX := XX.out.then_ hb; have qB := thenB BB.out hb; clear KL KT KI LL XX BB hb; have KL := hide qKL; have KT := hide qKT; have KI := hide qKI; have LL := hide qLL; have XX := hide qXX; have BB := hide qB; clear qKL qKT qKI qLL qXX qB; have cKL := KL.out.cell; have cKT := KT.out.cell)
    go_ret
    exact ⟨rfl, BB.out⟩
  · cases ft
    · go_enter Try.func3, Try.ntmps3
      go_upto_region 1 with fail
      have BB := hide (Below.refl w.heap.size w)
      obtain ⟨W0, hW0⟩ : ∃ W, W = (((w.alloc (.cells #[.int .i64 L.last, .slice L.sa L.st.length L.sc, .slice L.oa L.op.length L.oc] 25)).alloc (.cells #[.int .i64 v.t.id, .int .i64 v.t.ts, .slice v.ra v.t.reads.length v.rc, .slice v.wa v.t.writes.length v.wc] 29)).alloc (.cells #[.int .i64 lo, .int .i64 hi] 31)) := ⟨_, rfl⟩
      have qKL : Blk W0 (w.heap.size) 25 #[.int .i64 L.last, .slice L.sa L.st.length L.sc, .slice L.oa L.op.length L.oc] := by
        have hh := (Blk.new w 25 #[.int .i64 L.last, .slice L.sa L.st.length L.sc, .slice L.oa L.op.length L.oc])
        (repeat rw [World.size_alloc] at hh)
        rw [hW0]; exact ((hh.alloc _).alloc _)
      have qKT : Blk W0 (w.heap.size + 1) 29 #[.int .i64 v.t.id, .int .i64 v.t.ts, .slice v.ra v.t.reads.length v.rc, .slice v.wa v.t.writes.length v.wc] := by
        have hh := (Blk.new (w.alloc (.cells #[.int .i64 L.last, .slice L.sa L.st.length L.sc, .slice L.oa L.op.length L.oc] 25)) 29 #[.int .i64 v.t.id, .int .i64 v.t.ts, .slice v.ra v.t.reads.length v.rc, .slice v.wa v.t.writes.length v.wc])
        (repeat rw [World.size_alloc] at hh)
        rw [hW0]; exact (hh.alloc _)
      have qKI : Blk W0 (w.heap.size + 2) 31 #[.int .i64 lo, .int .i64 hi] := by
        have hh := (Blk.new ((w.alloc (.cells #[.int .i64 L.last, .slice L.sa L.st.length L.sc, .slice L.oa L.op.length L.oc] 25)).alloc (.cells #[.int .i64 v.t.id, .int .i64 v.t.ts, .slice v.ra v.t.reads.length v.rc, .slice v.wa v.t.writes.length v.wc] 29)) 31 #[.int .i64 lo, .int .i64 hi])
        (repeat rw [World.size_alloc] at hh)
        rw [hW0]; exact hh
      have qA : Below w.heap.size w W0 := by rw [hW0]; exact ((((Below.refl w.heap.size w).alloc (by (try simp); (try omega)) _).alloc (by (try simp); (try omega)) _).alloc (by (try simp); (try omega)) _)
      have qB := thenB BB.out qA
      have qLL := LL.out.then_ qA
      have qXX := XX.out.then_ qA
      have QSW0 := hide (show W0.heap.size = w.heap.size + 3 by rw [hW0]; simp)
      rw [← hW0]
      clear hW0 qA LL XX BB
      have KL := hide qKL
      have KT := hide qKT
      have KI := hide qKI
      have LL := hide qLL
      have XX := hide qXX
      have BB := hide qB
      clear qKL qKT qKI qLL qXX qB
      go_upto_region 2 with (go_at_call 10; refine (HD.out _).mono ?_; rintro e w1 ⟨rfl, hb⟩; have qKL := KL.out.below hb KL.out.lt; have qKT := KT.out.below hb KT.out.lt; have qKI := KI.out.below hb KI.out.lt; have qLL := LL.out.then_ hb; have qXX := XX.out.then_ hb; have qB := thenB BB.out hb; clear KL KT KI LL XX BB hb; have KL := hide qKL; have KT := hide qKT; have KI := hide qKI; have LL := hide qLL; have XX := hide qXX; have BB := hide qB; clear qKL qKT qKI qLL qXX qB)
      have cKL := KL.out.cell
      have cKT := KT.out.cell
      go_wp2_with (first
        | (go_at_call 11; refine (FE.out _ LL.out).mono ?_; rintro e w2 ⟨rfl, hb⟩; clear cKL cKT; have qKL := KL.out.below hb KL.out.lt; have qKT := KT.out.below hb KT.out.lt; have qKI := KI.out.below hb KI.out.lt; have qLL := LL.out.then_ hb; have qXX := XX.out.then_ hb; have qB := thenB BB.out hb; clear KL KT KI LL XX BB hb; have KL := hide qKL; have KT := hide qKT; have KI := hide qKI; have LL := hide qLL; have XX := hide qXX; have BB := hide qB; clear qKL qKT qKI qLL qXX qB; have cKL := KL.out.cell; have cKT := KT.out.cell)
        | (go_at_call 12; refine (FT.out (some ⟨w2.heap.size, 0, none⟩) 1 _ (show TS (w2.alloc (.cells #[.int .i64 v.t.id, .int .i64 v.t.ts, .slice v.ra v.t.reads.length v.rc, .slice v.wa v.t.writes.length v.wc] 29)) (some ⟨w2.heap.size, 0, none⟩) [v] from ⟨by have hh := Rd.new_row w2 29 #[.int .i64 v.t.id, .int .i64 v.t.ts, .slice v.ra v.t.reads.length v.rc, .slice v.wa v.t.writes.length v.wc]; exact hh, fun x hx => by obtain rfl : x = v := (by simpa using hx); exact XX.out.then_ ((Below.refl _ _).alloc (Nat.le_refl _) _)⟩) (Nat.le_refl _) (by simp [maxLen])).mono ?_; rintro e w3 ⟨rfl, rfl⟩))
      go_ret
      exact ⟨rfl, BB.out.alloc BB.out.size _⟩
    · have LS := hide (few_S HFL.out.symm)
      have hv20 := fewT_small HFT.out.symm
      have hv : v.t.reads.length ≤ 100 ∧ v.t.writes.length ≤ 100 := by omega
      have hfs := few_small HFL.out.symm
      have hlit := few_lit HFL.out.symm
      have hl1 : L.d.op.length ≤ 99999 := by have := hfs.2.2; omega
      have HR := hide (lit_stamp (t := v.t) (lo := lo) (hi := hi) hlit hv hl1)
      have HSL0 := show_len (D := L.d) (lo := lo) (hi := hi)
      have HL30 : L.d.op.length ≤ 30 := hfs.2.2
      have HRT0 := lit_stampT (D := L.d) (lo := lo) (hi := hi) hv
      have HS := hide (lit_show (lo := lo) (hi := hi) hlit)
      have SA0 := fun W (s : LdW W L) (s' : TxW W v) => stamp_any L v lo hi W LS.out hv s s'
      have SB0 := fun W (s : LdW W L) (s' : TxW W v) => rStampL_any L v lo hi W LS.out hv s s'
      have WA0 := fun W (s : LdW W L) => show_any L lo hi W LS.out s
      have WB0 := fun W (s : LdW W L) => rShow_any L lo hi W LS.out s
      obtain ⟨⟨RL, RT, RE⟩, hR⟩ : ∃ x, x = stampS L.d v.t lo hi := ⟨_, rfl⟩
      obtain ⟨⟨SL, ST, SE⟩, hS⟩ : ∃ x, x = showS L.d lo hi := ⟨_, rfl⟩
      rw [← hR] at SA0 SB0 HR HRT0
      have HRT := hide HRT0
      rw [← hS] at WA0 WB0 HS HSL0
      have HSL := hide (Nat.le_trans HSL0 HL30)
      have SA := hide (show ∀ W, LdW W L → TxW W v → Calls Try.prog 13 #[.agg #[.int .i64 L.last, .slice L.sa L.st.length L.sc, .slice L.oa L.op.length L.oc], .agg #[.int .i64 v.t.id, .int .i64 v.t.ts, .slice v.ra v.t.reads.length v.rc, .slice v.wa v.t.writes.length v.wc], .agg #[.int .i64 lo, .int .i64 hi]] W (AnsLX W RL RT RE) from SA0)
      have SB := hide (show ∀ W, LdW W L → TxW W v → Calls Try.prog 14 #[.agg #[.int .i64 L.last, .slice L.sa L.st.length L.sc, .slice L.oa L.op.length L.oc], .agg #[.int .i64 v.t.id, .int .i64 v.t.ts, .slice v.ra v.t.reads.length v.rc, .slice v.wa v.t.writes.length v.wc], .agg #[.int .i64 lo, .int .i64 hi]] W (AnsLX W RL RT RE) from SB0)
      have WA := hide (show ∀ W, LdW W L → Calls Try.prog 19 #[.agg #[.int .i64 L.last, .slice L.sa L.st.length L.sc, .slice L.oa L.op.length L.oc], .agg #[.int .i64 lo, .int .i64 hi]] W (AnsLT W SL ST SE) from WA0)
      have WB := hide (show ∀ W, LdW W L → Calls Try.prog 20 #[.agg #[.int .i64 L.last, .slice L.sa L.st.length L.sc, .slice L.oa L.op.length L.oc], .agg #[.int .i64 lo, .int .i64 hi]] W (AnsLT W SL ST SE) from WB0)
      have VA0 := fun W (s : LdW W L) => lv_any L W LS.out s
      have VB0 := fun W (s : LdW W L) => rlv_any L W LS.out s
      obtain ⟨ok, hok⟩ : ∃ x, x = L.ok := ⟨_, rfl⟩
      rw [← hok] at VA0 VB0
      have VA := hide VA0
      have VB := hide VB0
      have hoo : (ok == ok) = true := by simp
      have RA0 := fun W (s : LdW W L) => read_any L key ts lo hi W LS.out s
      have RB0 := fun W (s : LdW W L) => rRead_any L key ts lo hi W LS.out s
      obtain ⟨⟨⟨ka, kt, kv, kg⟩, kb, ke⟩, hk⟩ : ∃ x, x = readLS L key ts lo hi := ⟨_, rfl⟩
      rw [← hk] at RA0 RB0
      have RA := hide RA0
      have RB := hide RB0
      have heq : eqB ka kt kv kg ka kt kv kg = true := decide_eq_true rfl
      have NA0 := fun W (s : LdW W L) => now_any L lo hi W LS.out s
      have NB0 := fun W (s : LdW W L) => rNow_any L lo hi W LS.out s
      obtain ⟨⟨na, ne⟩, hn⟩ : ∃ x, x = nowS L lo hi := ⟨_, rfl⟩
      rw [← hn] at NA0 NB0
      have NA := hide NA0
      have NB := hide NB0
      clear hR hS hok hk hn SA0 SB0 WA0 WB0 VA0 VB0 RA0 RB0 NA0 NB0 hfs hlit hl1 hv20 HRT0 HSL0 HL30
      go_enter Try.func3, Try.ntmps3
      go_upto_region 1 with fail
      have BB := hide (Below.refl w.heap.size w)
      obtain ⟨W0, hW0⟩ : ∃ W, W = (((w.alloc (.cells #[.int .i64 L.last, .slice L.sa L.st.length L.sc, .slice L.oa L.op.length L.oc] 25)).alloc (.cells #[.int .i64 v.t.id, .int .i64 v.t.ts, .slice v.ra v.t.reads.length v.rc, .slice v.wa v.t.writes.length v.wc] 29)).alloc (.cells #[.int .i64 lo, .int .i64 hi] 31)) := ⟨_, rfl⟩
      have qKL : Blk W0 (w.heap.size) 25 #[.int .i64 L.last, .slice L.sa L.st.length L.sc, .slice L.oa L.op.length L.oc] := by
        have hh := (Blk.new w 25 #[.int .i64 L.last, .slice L.sa L.st.length L.sc, .slice L.oa L.op.length L.oc])
        (repeat rw [World.size_alloc] at hh)
        rw [hW0]; exact ((hh.alloc _).alloc _)
      have qKT : Blk W0 (w.heap.size + 1) 29 #[.int .i64 v.t.id, .int .i64 v.t.ts, .slice v.ra v.t.reads.length v.rc, .slice v.wa v.t.writes.length v.wc] := by
        have hh := (Blk.new (w.alloc (.cells #[.int .i64 L.last, .slice L.sa L.st.length L.sc, .slice L.oa L.op.length L.oc] 25)) 29 #[.int .i64 v.t.id, .int .i64 v.t.ts, .slice v.ra v.t.reads.length v.rc, .slice v.wa v.t.writes.length v.wc])
        (repeat rw [World.size_alloc] at hh)
        rw [hW0]; exact (hh.alloc _)
      have qKI : Blk W0 (w.heap.size + 2) 31 #[.int .i64 lo, .int .i64 hi] := by
        have hh := (Blk.new ((w.alloc (.cells #[.int .i64 L.last, .slice L.sa L.st.length L.sc, .slice L.oa L.op.length L.oc] 25)).alloc (.cells #[.int .i64 v.t.id, .int .i64 v.t.ts, .slice v.ra v.t.reads.length v.rc, .slice v.wa v.t.writes.length v.wc] 29)) 31 #[.int .i64 lo, .int .i64 hi])
        (repeat rw [World.size_alloc] at hh)
        rw [hW0]; exact hh
      have qA : Below w.heap.size w W0 := by rw [hW0]; exact ((((Below.refl w.heap.size w).alloc (by (try simp); (try omega)) _).alloc (by (try simp); (try omega)) _).alloc (by (try simp); (try omega)) _)
      have qB := thenB BB.out qA
      have qLL := LL.out.then_ qA
      have qXX := XX.out.then_ qA
      have QSW0 := hide (show W0.heap.size = w.heap.size + 3 by rw [hW0]; simp)
      rw [← hW0]
      clear hW0 qA LL XX BB
      have KL := hide qKL
      have KT := hide qKT
      have KI := hide qKI
      have LL := hide qLL
      have XX := hide qXX
      have BB := hide qB
      clear qKL qKT qKI qLL qXX qB
      go_upto_region 2 with (go_at_call 10; refine (HD.out _).mono ?_; rintro e w1 ⟨rfl, hb⟩; have qKL := KL.out.below hb KL.out.lt; have qKT := KT.out.below hb KT.out.lt; have qKI := KI.out.below hb KI.out.lt; have qLL := LL.out.then_ hb; have qXX := XX.out.then_ hb; have qB := thenB BB.out hb; clear KL KT KI LL XX BB hb; have KL := hide qKL; have KT := hide qKT; have KI := hide qKI; have LL := hide qLL; have XX := hide qXX; have BB := hide qB; clear qKL qKT qKI qLL qXX qB)
      have cKL := KL.out.cell
      have cKT := KT.out.cell
      go_upto_region 4 with (first
        | (go_at_call 11; refine (FE.out _ LL.out).mono ?_; rintro e w2 ⟨rfl, hb⟩; clear cKL cKT; have qKL := KL.out.below hb KL.out.lt; have qKT := KT.out.below hb KT.out.lt; have qKI := KI.out.below hb KI.out.lt; have qLL := LL.out.then_ hb; have qXX := XX.out.then_ hb; have qB := thenB BB.out hb; clear KL KT KI LL XX BB hb; have KL := hide qKL; have KT := hide qKT; have KI := hide qKI; have LL := hide qLL; have XX := hide qXX; have BB := hide qB; clear qKL qKT qKI qLL qXX qB; have cKL := KL.out.cell; have cKT := KT.out.cell)
        | (go_at_call 12; refine (FT.out (some ⟨w2.heap.size, 0, none⟩) 1 _ (show TS (w2.alloc (.cells #[.int .i64 v.t.id, .int .i64 v.t.ts, .slice v.ra v.t.reads.length v.rc, .slice v.wa v.t.writes.length v.wc] 29)) (some ⟨w2.heap.size, 0, none⟩) [v] from ⟨by have hh := Rd.new_row w2 29 #[.int .i64 v.t.id, .int .i64 v.t.ts, .slice v.ra v.t.reads.length v.rc, .slice v.wa v.t.writes.length v.wc]; exact hh, fun x hx => by obtain rfl : x = v := (by simpa using hx); exact XX.out.then_ ((Below.refl _ _).alloc (Nat.le_refl _) _)⟩) (Nat.le_refl _) (by simp [maxLen])).mono ?_; rintro e w3 ⟨rfl, rfl⟩))
      clear cKL cKT
      obtain ⟨W2, hW2⟩ : ∃ W, W = (w2.alloc (.cells #[.int .i64 v.t.id, .int .i64 v.t.ts, .slice v.ra v.t.reads.length v.rc, .slice v.wa v.t.writes.length v.wc] 29)) := ⟨_, rfl⟩
      have qKL : Blk W2 (w.heap.size) 25 #[.int .i64 L.last, .slice L.sa L.st.length L.sc, .slice L.oa L.op.length L.oc] := by rw [hW2]; exact (KL.out.alloc _)
      have qKT : Blk W2 (w.heap.size + 1) 29 #[.int .i64 v.t.id, .int .i64 v.t.ts, .slice v.ra v.t.reads.length v.rc, .slice v.wa v.t.writes.length v.wc] := by rw [hW2]; exact (KT.out.alloc _)
      have qKI : Blk W2 (w.heap.size + 2) 31 #[.int .i64 lo, .int .i64 hi] := by rw [hW2]; exact (KI.out.alloc _)
      have qA : Below w2.heap.size w2 W2 := by rw [hW2]; exact ((Below.refl w2.heap.size w2).alloc (by (try simp); (try omega)) _)
      have qB := thenB BB.out qA
      have qLL := LL.out.then_ qA
      have qXX := XX.out.then_ qA
      have QSW2 := hide (show W2.heap.size = w2.heap.size + 1 by rw [hW2]; simp)
      rw [← hW2]
      clear hW2 qA KL KT KI LL XX BB
      have KL := hide qKL
      have KT := hide qKT
      have KI := hide qKI
      have LL := hide qLL
      have XX := hide qXX
      have BB := hide qB
      clear qKL qKT qKI qLL qXX qB
      have hq0 := KI.out.lt
      have cKL := KL.out.cell
      have cKT := KT.out.cell
      have cKI := KI.out.cell
      go_upto_region 5 with (go_at_call 13; refine (SA.out _ LL.out XX.out).mono ?_; unfold AnsLX; rintro e w3 ⟨M3, v3, rfl, hM3, hv3, l3, x3, hb⟩; have HM3 := hide hM3; have HV3 := hide hv3; have LM3 := hide l3; have LX3 := hide x3; have hs3 := hb.size; clear hM3 hv3 l3 x3; have qKL := KL.out.below hb KL.out.lt; have qKT := KT.out.below hb KT.out.lt; have qKI := KI.out.below hb KI.out.lt; have qLL := LL.out.then_ hb; have qXX := XX.out.then_ hb; have qB := thenB BB.out hb; clear KL KT KI LL XX BB hb; have KL := hide qKL; have KT := hide qKT; have KI := hide qKI; have LL := hide qLL; have XX := hide qXX; have BB := hide qB; clear qKL qKT qKI qLL qXX qB; clear cKL cKT cKI)
      obtain ⟨W3, hW3⟩ : ∃ W, W = ((w3.alloc (.cells #[.int .i64 M3.last, .slice M3.sa M3.st.length M3.sc, .slice M3.oa M3.op.length M3.oc] 25)).alloc (.cells #[.int .i64 v3.t.id, .int .i64 v3.t.ts, .slice v3.ra v3.t.reads.length v3.rc, .slice v3.wa v3.t.writes.length v3.wc] 29)) := ⟨_, rfl⟩
      have qKL : Blk W3 (w.heap.size) 25 #[.int .i64 L.last, .slice L.sa L.st.length L.sc, .slice L.oa L.op.length L.oc] := by rw [hW3]; exact ((KL.out.alloc _).alloc _)
      have qKT : Blk W3 (w.heap.size + 1) 29 #[.int .i64 v.t.id, .int .i64 v.t.ts, .slice v.ra v.t.reads.length v.rc, .slice v.wa v.t.writes.length v.wc] := by rw [hW3]; exact ((KT.out.alloc _).alloc _)
      have qKI : Blk W3 (w.heap.size + 2) 31 #[.int .i64 lo, .int .i64 hi] := by rw [hW3]; exact ((KI.out.alloc _).alloc _)
      have qKM3 : Blk W3 (w3.heap.size) 25 #[.int .i64 M3.last, .slice M3.sa M3.st.length M3.sc, .slice M3.oa M3.op.length M3.oc] := by
        have hh := (Blk.new w3 25 #[.int .i64 M3.last, .slice M3.sa M3.st.length M3.sc, .slice M3.oa M3.op.length M3.oc])
        (repeat rw [World.size_alloc] at hh)
        rw [hW3]; exact (hh.alloc _)
      have qKX3 : Blk W3 (w3.heap.size + 1) 29 #[.int .i64 v3.t.id, .int .i64 v3.t.ts, .slice v3.ra v3.t.reads.length v3.rc, .slice v3.wa v3.t.writes.length v3.wc] := by
        have hh := (Blk.new (w3.alloc (.cells #[.int .i64 M3.last, .slice M3.sa M3.st.length M3.sc, .slice M3.oa M3.op.length M3.oc] 25)) 29 #[.int .i64 v3.t.id, .int .i64 v3.t.ts, .slice v3.ra v3.t.reads.length v3.rc, .slice v3.wa v3.t.writes.length v3.wc])
        (repeat rw [World.size_alloc] at hh)
        rw [hW3]; exact hh
      have qA : Below w3.heap.size w3 W3 := by rw [hW3]; exact (((Below.refl w3.heap.size w3).alloc (by (try simp); (try omega)) _).alloc (by (try simp); (try omega)) _)
      have qB := thenB BB.out qA
      have qLL := LL.out.then_ qA
      have qXX := XX.out.then_ qA
      have qLM3 := LM3.out.then_ qA
      have qLX3 := LX3.out.then_ qA
      have QSW3 := hide (show W3.heap.size = w3.heap.size + 2 by rw [hW3]; simp)
      rw [← hW3]
      clear hW3 qA KL KT KI LL XX LM3 LX3 BB
      have KL := hide qKL
      have KT := hide qKT
      have KI := hide qKI
      have KM3 := hide qKM3
      have KX3 := hide qKX3
      have LL := hide qLL
      have XX := hide qXX
      have LM3 := hide qLM3
      have LX3 := hide qLX3
      have BB := hide qB
      clear qKL qKT qKI qKM3 qKX3 qLL qXX qLM3 qLX3 qB
      have cKL := KL.out.cell
      have cKT := KT.out.cell
      have cKI := KI.out.cell
      go_upto_region 6 with (go_at_call 14; refine (SB.out _ LL.out XX.out).mono ?_; unfold AnsLX; rintro e w4 ⟨M4, v4, rfl, hM4, hv4, l4, x4, hb⟩; have HM4 := hide hM4; have HV4 := hide hv4; have LM4 := hide l4; have LX4 := hide x4; have hs4 := hb.size; clear hM4 hv4 l4 x4; have qKL := KL.out.below hb KL.out.lt; have qKT := KT.out.below hb KT.out.lt; have qKI := KI.out.below hb KI.out.lt; have qKM3 := KM3.out.below hb KM3.out.lt; have qKX3 := KX3.out.below hb KX3.out.lt; have qLL := LL.out.then_ hb; have qXX := XX.out.then_ hb; have qLM3 := LM3.out.then_ hb; have qLX3 := LX3.out.then_ hb; have qB := thenB BB.out hb; clear KL KT KI KM3 KX3 LL XX LM3 LX3 BB hb; have KL := hide qKL; have KT := hide qKT; have KI := hide qKI; have KM3 := hide qKM3; have KX3 := hide qKX3; have LL := hide qLL; have XX := hide qXX; have LM3 := hide qLM3; have LX3 := hide qLX3; have BB := hide qB; clear qKL qKT qKI qKM3 qKX3 qLL qXX qLM3 qLX3 qB; clear cKL cKT cKI)
      obtain ⟨W4, hW4⟩ : ∃ W, W = ((w4.alloc (.cells #[.int .i64 M4.last, .slice M4.sa M4.st.length M4.sc, .slice M4.oa M4.op.length M4.oc] 25)).alloc (.cells #[.int .i64 v4.t.id, .int .i64 v4.t.ts, .slice v4.ra v4.t.reads.length v4.rc, .slice v4.wa v4.t.writes.length v4.wc] 29)) := ⟨_, rfl⟩
      have qKL : Blk W4 (w.heap.size) 25 #[.int .i64 L.last, .slice L.sa L.st.length L.sc, .slice L.oa L.op.length L.oc] := by rw [hW4]; exact ((KL.out.alloc _).alloc _)
      have qKT : Blk W4 (w.heap.size + 1) 29 #[.int .i64 v.t.id, .int .i64 v.t.ts, .slice v.ra v.t.reads.length v.rc, .slice v.wa v.t.writes.length v.wc] := by rw [hW4]; exact ((KT.out.alloc _).alloc _)
      have qKI : Blk W4 (w.heap.size + 2) 31 #[.int .i64 lo, .int .i64 hi] := by rw [hW4]; exact ((KI.out.alloc _).alloc _)
      have qKM3 : Blk W4 (w3.heap.size) 25 #[.int .i64 M3.last, .slice M3.sa M3.st.length M3.sc, .slice M3.oa M3.op.length M3.oc] := by rw [hW4]; exact ((KM3.out.alloc _).alloc _)
      have qKX3 : Blk W4 (w3.heap.size + 1) 29 #[.int .i64 v3.t.id, .int .i64 v3.t.ts, .slice v3.ra v3.t.reads.length v3.rc, .slice v3.wa v3.t.writes.length v3.wc] := by rw [hW4]; exact ((KX3.out.alloc _).alloc _)
      have qKM4 : Blk W4 (w4.heap.size) 25 #[.int .i64 M4.last, .slice M4.sa M4.st.length M4.sc, .slice M4.oa M4.op.length M4.oc] := by
        have hh := (Blk.new w4 25 #[.int .i64 M4.last, .slice M4.sa M4.st.length M4.sc, .slice M4.oa M4.op.length M4.oc])
        (repeat rw [World.size_alloc] at hh)
        rw [hW4]; exact (hh.alloc _)
      have qKX4 : Blk W4 (w4.heap.size + 1) 29 #[.int .i64 v4.t.id, .int .i64 v4.t.ts, .slice v4.ra v4.t.reads.length v4.rc, .slice v4.wa v4.t.writes.length v4.wc] := by
        have hh := (Blk.new (w4.alloc (.cells #[.int .i64 M4.last, .slice M4.sa M4.st.length M4.sc, .slice M4.oa M4.op.length M4.oc] 25)) 29 #[.int .i64 v4.t.id, .int .i64 v4.t.ts, .slice v4.ra v4.t.reads.length v4.rc, .slice v4.wa v4.t.writes.length v4.wc])
        (repeat rw [World.size_alloc] at hh)
        rw [hW4]; exact hh
      have qA : Below w4.heap.size w4 W4 := by rw [hW4]; exact (((Below.refl w4.heap.size w4).alloc (by (try simp); (try omega)) _).alloc (by (try simp); (try omega)) _)
      have qB := thenB BB.out qA
      have qLL := LL.out.then_ qA
      have qXX := XX.out.then_ qA
      have qLM3 := LM3.out.then_ qA
      have qLX3 := LX3.out.then_ qA
      have qLM4 := LM4.out.then_ qA
      have qLX4 := LX4.out.then_ qA
      have QSW4 := hide (show W4.heap.size = w4.heap.size + 2 by rw [hW4]; simp)
      rw [← hW4]
      clear hW4 qA KL KT KI KM3 KX3 LL XX LM3 LX3 LM4 LX4 BB
      have KL := hide qKL
      have KT := hide qKT
      have KI := hide qKI
      have KM3 := hide qKM3
      have KX3 := hide qKX3
      have KM4 := hide qKM4
      have KX4 := hide qKX4
      have LL := hide qLL
      have XX := hide qXX
      have LM3 := hide qLM3
      have LX3 := hide qLX3
      have LM4 := hide qLM4
      have LX4 := hide qLX4
      have BB := hide qB
      clear qKL qKT qKI qKM3 qKX3 qKM4 qKX4 qLL qXX qLM3 qLX3 qLM4 qLX4 qB
      have hm3 := HR.out.l HM3.out
      have hm4 := HR.out.l HM4.out
      have SM0 := fun W (s : LdW W M3) (s' : LdW W M4) => rSameL_any M3 M4 W hm3.1 ⟨hm3.2.1, hm4.2.1, hm3.2.2, hm4.2.2⟩ s s'
      have SX0 := fun W (s : TxW W v3) (s' : TxW W v4) => rSameTx_any v3 v4 W (by rw [HV3.out]; exact HRT.out) s s'
      rw [show decide (M3.d = M4.d) = true from decide_eq_true (HM3.out.trans HM4.out.symm)] at SM0
      rw [show decide (v3.t = v4.t) = true from decide_eq_true (HV3.out.trans HV4.out.symm)] at SX0
      have SM := hide SM0
      have SX := hide SX0
      clear SM0 SX0 hm3 hm4
      have BM := hide (Bm.of (t := 25) (s := 29) BB.out LL.out LM3.out LM4.out LX3.out LX4.out KL.out KM3.out KM4.out KX3.out KX4.out)
      go_region_held3 (fun w' => (Below w.heap.size w w' ∧ LdW w' L ∧ LdW w' M3 ∧ LdW w' M4 ∧ TxW w' v3 ∧ TxW w' v4) ∧ (w'.cell? ⟨w.heap.size, 0, none⟩ = some (.int .i64 L.last) ∧ w'.cell? ⟨w.heap.size, 1, none⟩ = some (.slice L.sa L.st.length L.sc) ∧ w'.cell? ⟨w.heap.size, 2, none⟩ = some (.slice L.oa L.op.length L.oc)) ∧ (w'.cell? ⟨w3.heap.size, 0, none⟩ = some (.int .i64 M3.last) ∧ w'.cell? ⟨w3.heap.size, 1, none⟩ = some (.slice M3.sa M3.st.length M3.sc) ∧ w'.cell? ⟨w3.heap.size, 2, none⟩ = some (.slice M3.oa M3.op.length M3.oc)) ∧ (w'.cell? ⟨w4.heap.size, 0, none⟩ = some (.int .i64 M4.last) ∧ w'.cell? ⟨w4.heap.size, 1, none⟩ = some (.slice M4.sa M4.st.length M4.sc) ∧ w'.cell? ⟨w4.heap.size, 2, none⟩ = some (.slice M4.oa M4.op.length M4.oc)) ∧ (w'.cell? ⟨w3.heap.size + 1, 0, none⟩ = some (.int .i64 v3.t.id) ∧ w'.cell? ⟨w3.heap.size + 1, 1, none⟩ = some (.int .i64 v3.t.ts) ∧ w'.cell? ⟨w3.heap.size + 1, 2, none⟩ = some (.slice v3.ra v3.t.reads.length v3.rc) ∧ w'.cell? ⟨w3.heap.size + 1, 3, none⟩ = some (.slice v3.wa v3.t.writes.length v3.wc)) ∧ (w'.cell? ⟨w4.heap.size + 1, 0, none⟩ = some (.int .i64 v4.t.id) ∧ w'.cell? ⟨w4.heap.size + 1, 1, none⟩ = some (.int .i64 v4.t.ts) ∧ w'.cell? ⟨w4.heap.size + 1, 2, none⟩ = some (.slice v4.ra v4.t.reads.length v4.rc) ∧ w'.cell? ⟨w4.heap.size + 1, 3, none⟩ = some (.slice v4.wa v4.t.writes.length v4.wc)))
        (first
          | with_reducible exact Bm.drew BM.out
          | with_reducible exact Bm.call (by assumption) (by assumption)
          | fail "no keep")
        (first
          | (go_at_call 15; (with_reducible refine (VA.out _ (And.left (And.right (And.left (by assumption))))).mono ?_); rintro e w5 ⟨rfl, hb5⟩; have hb : Below W4.heap.size W4 w5 := (Below.refl W4.heap.size W4).drew.trans hb5; have qKL := KL.out.below hb KL.out.lt; have qKT := KT.out.below hb KT.out.lt; have qKI := KI.out.below hb KI.out.lt; have qKM3 := KM3.out.below hb KM3.out.lt; have qKX3 := KX3.out.below hb KX3.out.lt; have qKM4 := KM4.out.below hb KM4.out.lt; have qKX4 := KX4.out.below hb KX4.out.lt; have qLL := LL.out.then_ hb; have qXX := XX.out.then_ hb; have qLM3 := LM3.out.then_ hb; have qLX3 := LX3.out.then_ hb; have qLM4 := LM4.out.then_ hb; have qLX4 := LX4.out.then_ hb; have qB := thenB BB.out hb; clear KL KT KI KM3 KX3 KM4 KX4 LL XX LM3 LX3 LM4 LX4 BB hb; have KL := hide qKL; have KT := hide qKT; have KI := hide qKI; have KM3 := hide qKM3; have KX3 := hide qKX3; have KM4 := hide qKM4; have KX4 := hide qKX4; have LL := hide qLL; have XX := hide qXX; have LM3 := hide qLM3; have LX3 := hide qLX3; have LM4 := hide qLM4; have LX4 := hide qLX4; have BB := hide qB; clear qKL qKT qKI qKM3 qKX3 qKM4 qKX4 qLL qXX qLM3 qLX3 qLM4 qLX4 qB)
          | (go_at_call 16; (with_reducible refine (VB.out _ (And.left (And.right (And.left (by assumption))))).mono ?_); rintro e w6 ⟨rfl, hb6⟩; have hb : Below w5.heap.size w5 w6 := hb6; have qKL := KL.out.below hb KL.out.lt; have qKT := KT.out.below hb KT.out.lt; have qKI := KI.out.below hb KI.out.lt; have qKM3 := KM3.out.below hb KM3.out.lt; have qKX3 := KX3.out.below hb KX3.out.lt; have qKM4 := KM4.out.below hb KM4.out.lt; have qKX4 := KX4.out.below hb KX4.out.lt; have qLL := LL.out.then_ hb; have qXX := XX.out.then_ hb; have qLM3 := LM3.out.then_ hb; have qLX3 := LX3.out.then_ hb; have qLM4 := LM4.out.then_ hb; have qLX4 := LX4.out.then_ hb; have qB := thenB BB.out hb; clear KL KT KI KM3 KX3 KM4 KX4 LL XX LM3 LX3 LM4 LX4 BB hb; have KL := hide qKL; have KT := hide qKT; have KI := hide qKI; have KM3 := hide qKM3; have KX3 := hide qKX3; have KM4 := hide qKM4; have KX4 := hide qKX4; have LL := hide qLL; have XX := hide qXX; have LM3 := hide qLM3; have LX3 := hide qLX3; have LM4 := hide qLM4; have LX4 := hide qLX4; have BB := hide qB; clear qKL qKT qKI qKM3 qKX3 qKM4 qKX4 qLL qXX qLM3 qLX3 qLM4 qLX4 qB)
          | (go_at_call 17; (with_reducible refine (SM.out _ (And.left (And.right (And.right (And.left (by assumption))))) (And.left (And.right (And.right (And.right (And.left (by assumption))))))).mono ?_); rintro e w7 ⟨rfl, hb7⟩; have hb : Below w6.heap.size w6 w7 := hb7; have qKL := KL.out.below hb KL.out.lt; have qKT := KT.out.below hb KT.out.lt; have qKI := KI.out.below hb KI.out.lt; have qKM3 := KM3.out.below hb KM3.out.lt; have qKX3 := KX3.out.below hb KX3.out.lt; have qKM4 := KM4.out.below hb KM4.out.lt; have qKX4 := KX4.out.below hb KX4.out.lt; have qLL := LL.out.then_ hb; have qXX := XX.out.then_ hb; have qLM3 := LM3.out.then_ hb; have qLX3 := LX3.out.then_ hb; have qLM4 := LM4.out.then_ hb; have qLX4 := LX4.out.then_ hb; have qB := thenB BB.out hb; clear KL KT KI KM3 KX3 KM4 KX4 LL XX LM3 LX3 LM4 LX4 BB hb; have KL := hide qKL; have KT := hide qKT; have KI := hide qKI; have KM3 := hide qKM3; have KX3 := hide qKX3; have KM4 := hide qKM4; have KX4 := hide qKX4; have LL := hide qLL; have XX := hide qXX; have LM3 := hide qLM3; have LX3 := hide qLX3; have LM4 := hide qLM4; have LX4 := hide qLX4; have BB := hide qB; clear qKL qKT qKI qKM3 qKX3 qKM4 qKX4 qLL qXX qLM3 qLX3 qLM4 qLX4 qB)
          | (go_at_call 18; (with_reducible refine (SX.out _ (And.left (And.right (And.right (And.right (And.right (And.left (by assumption))))))) (And.right (And.right (And.right (And.right (And.right (And.left (by assumption)))))))).mono ?_); rintro e w8 ⟨rfl, hb8⟩; have hb : Below w7.heap.size w7 w8 := hb8; have qKL := KL.out.below hb KL.out.lt; have qKT := KT.out.below hb KT.out.lt; have qKI := KI.out.below hb KI.out.lt; have qKM3 := KM3.out.below hb KM3.out.lt; have qKX3 := KX3.out.below hb KX3.out.lt; have qKM4 := KM4.out.below hb KM4.out.lt; have qKX4 := KX4.out.below hb KX4.out.lt; have qLL := LL.out.then_ hb; have qXX := XX.out.then_ hb; have qLM3 := LM3.out.then_ hb; have qLX3 := LX3.out.then_ hb; have qLM4 := LM4.out.then_ hb; have qLX4 := LX4.out.then_ hb; have qB := thenB BB.out hb; clear KL KT KI KM3 KX3 KM4 KX4 LL XX LM3 LX3 LM4 LX4 BB hb; have KL := hide qKL; have KT := hide qKT; have KI := hide qKI; have KM3 := hide qKM3; have KX3 := hide qKX3; have KM4 := hide qKM4; have KX4 := hide qKX4; have LL := hide qLL; have XX := hide qXX; have LM3 := hide qLM3; have LX3 := hide qLX3; have LM4 := hide qLM4; have LX4 := hide qLX4; have BB := hide qB; clear qKL qKT qKI qKM3 qKX3 qKM4 qKX4 qLL qXX qLM3 qLX3 qLM4 qLX4 qB)
          | fail "no arm")
      clear hb5 hb6 hb7 hb8 BM SM SX
      clear KT
      clear KX3
      clear KX4
      clear XX
      clear LM3
      clear LX3
      clear LM4
      clear LX4
      have hq3 : w.heap.size + 2 < w3.heap.size := by omega
      have hq4 : w3.heap.size + 2 ≤ w4.heap.size := by have := QSW3.out; omega
      have cKL := KL.out.cell
      have cKI := KI.out.cell
      go_upto_region 8 with (go_at_call 19; refine (WA.out _ LL.out).mono ?_; unfold AnsLT; rintro e w9 ⟨M9, A9, c9, m9, rfl, hM9, hm9, l9, x9, lc9, mc9, hb⟩; have HM9 := hide hM9; have HT9 := hide hm9; have LM9 := hide l9; have TM9 := hide x9; clear hM9 hm9 l9 x9; have qKL := KL.out.below hb KL.out.lt; have qKI := KI.out.below hb KI.out.lt; have qKM3 := KM3.out.below hb KM3.out.lt; have qKM4 := KM4.out.below hb KM4.out.lt; have qLL := LL.out.then_ hb; have qB := thenB BB.out hb; clear KL KI KM3 KM4 LL BB hb; have KL := hide qKL; have KI := hide qKI; have KM3 := hide qKM3; have KM4 := hide qKM4; have LL := hide qLL; have BB := hide qB; clear qKL qKI qKM3 qKM4 qLL qB; clear cKL cKI; have dKM3 := KM3.out.cell; have fKM3 := KM3.out.frozen)
      clear dKM3 fKM3
      have hf := set3_far w9 (w3.heap.size) (.int .i64 M9.last) (.slice M9.sa M9.st.length M9.sc) (.slice M9.oa M9.op.length M9.oc)
      obtain ⟨W9, hW9⟩ : ∃ W, W = (((w9.setCell ⟨w3.heap.size, 0, none⟩ (.int .i64 M9.last)).setCell ⟨w3.heap.size, 1, none⟩ (.slice M9.sa M9.st.length M9.sc)).setCell ⟨w3.heap.size, 2, none⟩ (.slice M9.oa M9.op.length M9.oc)) := ⟨_, rfl⟩
      rw [← hW9] at hf
      have qKL : Blk W9 (w.heap.size) 25 #[.int .i64 L.last, .slice L.sa L.st.length L.sc, .slice L.oa L.op.length L.oc] := (hf.2 _ (by omega)).trans KL.out
      have qKI : Blk W9 (w.heap.size + 2) 31 #[.int .i64 lo, .int .i64 hi] := (hf.2 _ (by omega)).trans KI.out
      have qKM3 : Blk W9 (w3.heap.size) 25 #[.int .i64 M9.last, .slice M9.sa M9.st.length M9.sc, .slice M9.oa M9.op.length M9.oc] := by rw [hW9]; exact ((KM3.out.set_ 0 _).set_ 1 _).set_ 2 _
      have qKM4 : Blk W9 (w4.heap.size) 25 #[.int .i64 M4.last, .slice M4.sa M4.st.length M4.sc, .slice M4.oa M4.op.length M4.oc] := (hf.2 _ (by omega)).trans KM4.out
      have qLL := LL.out.off KM3.out hf.1 hf.2
      have qLM9 := LM9.out.off KM3.out hf.1 hf.2
      have qTM9 := TM9.out.off KM3.out hf.1 hf.2
      have qB : Below w.heap.size w W9 := by rw [hW9]; exact ((BB.out.setCell (p := ⟨w3.heap.size, 0, none⟩) (by show w.heap.size ≤ w3.heap.size; omega) _).setCell (p := ⟨w3.heap.size, 1, none⟩) (by show w.heap.size ≤ w3.heap.size; omega) _).setCell (p := ⟨w3.heap.size, 2, none⟩) (by show w.heap.size ≤ w3.heap.size; omega) _
      rw [← hW9]
      clear hf hW9 KL KI KM3 KM4 LL LM9 TM9 BB
      have KL := hide qKL
      have KI := hide qKI
      have KM3 := hide qKM3
      have KM4 := hide qKM4
      have LL := hide qLL
      have LM9 := hide qLM9
      have TM9 := hide qTM9
      have BB := hide qB
      clear qKL qKI qKM3 qKM4 qLL qLM9 qTM9 qB
      have cKL := KL.out.cell
      have cKI := KI.out.cell
      go_upto_region 9 with (go_at_call 20; refine (WB.out _ LL.out).mono ?_; unfold AnsLT; rintro e w10 ⟨M10, A10, c10, m10, rfl, hM10, hm10, l10, x10, lc10, mc10, hb⟩; have HM10 := hide hM10; have HT10 := hide hm10; have LM10 := hide l10; have TM10 := hide x10; clear hM10 hm10 l10 x10; have qKL := KL.out.below hb KL.out.lt; have qKI := KI.out.below hb KI.out.lt; have qKM3 := KM3.out.below hb KM3.out.lt; have qKM4 := KM4.out.below hb KM4.out.lt; have qLL := LL.out.then_ hb; have qLM9 := LM9.out.then_ hb; have qTM9 := TM9.out.then_ hb; have qB := thenB BB.out hb; clear KL KI KM3 KM4 LL LM9 TM9 BB hb; have KL := hide qKL; have KI := hide qKI; have KM3 := hide qKM3; have KM4 := hide qKM4; have LL := hide qLL; have LM9 := hide qLM9; have TM9 := hide qTM9; have BB := hide qB; clear qKL qKI qKM3 qKM4 qLL qLM9 qTM9 qB; clear cKL cKI; have dKM4 := KM4.out.cell; have fKM4 := KM4.out.frozen)
      clear dKM4 fKM4
      have hf := set3_far w10 (w4.heap.size) (.int .i64 M10.last) (.slice M10.sa M10.st.length M10.sc) (.slice M10.oa M10.op.length M10.oc)
      obtain ⟨W10, hW10⟩ : ∃ W, W = (((w10.setCell ⟨w4.heap.size, 0, none⟩ (.int .i64 M10.last)).setCell ⟨w4.heap.size, 1, none⟩ (.slice M10.sa M10.st.length M10.sc)).setCell ⟨w4.heap.size, 2, none⟩ (.slice M10.oa M10.op.length M10.oc)) := ⟨_, rfl⟩
      rw [← hW10] at hf
      have qKL : Blk W10 (w.heap.size) 25 #[.int .i64 L.last, .slice L.sa L.st.length L.sc, .slice L.oa L.op.length L.oc] := (hf.2 _ (by omega)).trans KL.out
      have qKI : Blk W10 (w.heap.size + 2) 31 #[.int .i64 lo, .int .i64 hi] := (hf.2 _ (by omega)).trans KI.out
      have qKM3 : Blk W10 (w3.heap.size) 25 #[.int .i64 M9.last, .slice M9.sa M9.st.length M9.sc, .slice M9.oa M9.op.length M9.oc] := (hf.2 _ (by omega)).trans KM3.out
      have qKM4 : Blk W10 (w4.heap.size) 25 #[.int .i64 M10.last, .slice M10.sa M10.st.length M10.sc, .slice M10.oa M10.op.length M10.oc] := by rw [hW10]; exact ((KM4.out.set_ 0 _).set_ 1 _).set_ 2 _
      have qLL := LL.out.off KM4.out hf.1 hf.2
      have qLM9 := LM9.out.off KM4.out hf.1 hf.2
      have qTM9 := TM9.out.off KM4.out hf.1 hf.2
      have qLM10 := LM10.out.off KM4.out hf.1 hf.2
      have qTM10 := TM10.out.off KM4.out hf.1 hf.2
      have qB : Below w.heap.size w W10 := by rw [hW10]; exact ((BB.out.setCell (p := ⟨w4.heap.size, 0, none⟩) (by show w.heap.size ≤ w4.heap.size; omega) _).setCell (p := ⟨w4.heap.size, 1, none⟩) (by show w.heap.size ≤ w4.heap.size; omega) _).setCell (p := ⟨w4.heap.size, 2, none⟩) (by show w.heap.size ≤ w4.heap.size; omega) _
      rw [← hW10]
      clear hf hW10 KL KI KM3 KM4 LL LM9 TM9 LM10 TM10 BB
      have KL := hide qKL
      have KI := hide qKI
      have KM3 := hide qKM3
      have KM4 := hide qKM4
      have LL := hide qLL
      have LM9 := hide qLM9
      have TM9 := hide qTM9
      have LM10 := hide qLM10
      have TM10 := hide qTM10
      have BB := hide qB
      clear qKL qKI qKM3 qKM4 qLL qLM9 qTM9 qLM10 qTM10 qB
      have hm9 := HS.out.1.l HM9.out
      have hm10 := HS.out.1.l HM10.out
      have hz9 : m9.length ≤ 100000 := by have := congrArg List.length HT9.out; rw [txs_len] at this; have := HSL.out; omega
      have hz10 : m10.length ≤ 100000 := by have := congrArg List.length HT10.out; rw [txs_len] at this; have := HSL.out; omega
      have SM0 := fun W (s : LdW W M9) (s' : LdW W M10) => rSameL_any M9 M10 W hm9.1 ⟨hm9.2.1, hm10.2.1, hm9.2.2, hm10.2.2⟩ s s'
      have ST0 := fun W (s : TS W A9 m9) (s' : TS W A10 m10) => rSameTxs_any A9 A10 c9 c10 m9 m10 W (fun x hx => HS.out.2 x.t (by rw [← HT9.out]; exact List.mem_map.2 ⟨x, hx, rfl⟩)) hz9 hz10 s s'
      rw [show decide (M9.d = M10.d) = true from decide_eq_true (HM9.out.trans HM10.out.symm)] at SM0
      rw [show decide (txs m9 = txs m10) = true from decide_eq_true (HT9.out.trans HT10.out.symm)] at ST0
      have SM := hide SM0
      have SX := hide ST0
      clear SM0 ST0 hm9 hm10 hz9 hz10
      have cKM3 := KM3.out.cell
      have cKM4 := KM4.out.cell
      go_upto_region 10 with (first
          | (go_at_call 17; refine (SM.out _ LM9.out LM10.out).mono ?_; rintro e w11 ⟨rfl, hb⟩; have qKL := KL.out.below hb KL.out.lt; have qKI := KI.out.below hb KI.out.lt; have qKM3 := KM3.out.below hb KM3.out.lt; have qKM4 := KM4.out.below hb KM4.out.lt; have qLL := LL.out.then_ hb; have qLM9 := LM9.out.then_ hb; have qTM9 := TM9.out.then_ hb; have qLM10 := LM10.out.then_ hb; have qTM10 := TM10.out.then_ hb; have qB := thenB BB.out hb; clear KL KI KM3 KM4 LL LM9 TM9 LM10 TM10 BB hb; have KL := hide qKL; have KI := hide qKI; have KM3 := hide qKM3; have KM4 := hide qKM4; have LL := hide qLL; have LM9 := hide qLM9; have TM9 := hide qTM9; have LM10 := hide qLM10; have TM10 := hide qTM10; have BB := hide qB; clear qKL qKI qKM3 qKM4 qLL qLM9 qTM9 qLM10 qTM10 qB; clear cKM3 cKM4)
          | (go_at_call 21; refine (SX.out _ TM9.out TM10.out).mono ?_; rintro e w12 ⟨rfl, hb⟩; have qKL := KL.out.below hb KL.out.lt; have qKI := KI.out.below hb KI.out.lt; have qKM3 := KM3.out.below hb KM3.out.lt; have qKM4 := KM4.out.below hb KM4.out.lt; have qLL := LL.out.then_ hb; have qLM9 := LM9.out.then_ hb; have qTM9 := TM9.out.then_ hb; have qLM10 := LM10.out.then_ hb; have qTM10 := TM10.out.then_ hb; have qB := thenB BB.out hb; clear KL KI KM3 KM4 LL LM9 TM9 LM10 TM10 BB hb; have KL := hide qKL; have KI := hide qKI; have KM3 := hide qKM3; have KM4 := hide qKM4; have LL := hide qLL; have LM9 := hide qLM9; have TM9 := hide qTM9; have LM10 := hide qLM10; have TM10 := hide qTM10; have BB := hide qB; clear qKL qKI qKM3 qKM4 qLL qLM9 qTM9 qLM10 qTM10 qB))
      clear LM9
      clear LM10
      clear TM9
      clear TM10
      clear KM3
      clear KM4
      have cKL := KL.out.cell
      have cKI := KI.out.cell
      go_upto_region 11 with (go_at_call 22; refine (RA.out _ LL.out).mono ?_; unfold RetVBE; rintro e w13 ⟨rfl, hb⟩; dsimp only; have qKL := KL.out.below hb KL.out.lt; have qKI := KI.out.below hb KI.out.lt; have qLL := LL.out.then_ hb; have qB := thenB BB.out hb; clear KL KI LL BB hb; have KL := hide qKL; have KI := hide qKI; have LL := hide qLL; have BB := hide qB; clear qKL qKI qLL qB; clear cKL cKI)
      obtain ⟨W13, hW13⟩ : ∃ W, W = (w13.alloc (.cells #[.int .i64 ka, .int .i64 kt, .int .i64 kv, .bool kg] 44)) := ⟨_, rfl⟩
      have qKL : Blk W13 (w.heap.size) 25 #[.int .i64 L.last, .slice L.sa L.st.length L.sc, .slice L.oa L.op.length L.oc] := by rw [hW13]; exact (KL.out.alloc _)
      have qKI : Blk W13 (w.heap.size + 2) 31 #[.int .i64 lo, .int .i64 hi] := by rw [hW13]; exact (KI.out.alloc _)
      have qK20 : Blk W13 (w13.heap.size) 44 #[.int .i64 ka, .int .i64 kt, .int .i64 kv, .bool kg] := by
        have hh := (Blk.new w13 44 #[.int .i64 ka, .int .i64 kt, .int .i64 kv, .bool kg])
        (repeat rw [World.size_alloc] at hh)
        rw [hW13]; exact hh
      have qA : Below w13.heap.size w13 W13 := by rw [hW13]; exact ((Below.refl w13.heap.size w13).alloc (by (try simp); (try omega)) _)
      have qB := thenB BB.out qA
      have qLL := LL.out.then_ qA
      have QSW13 := hide (show W13.heap.size = w13.heap.size + 1 by rw [hW13]; simp)
      rw [← hW13]
      clear hW13 qA KL KI LL BB
      have KL := hide qKL
      have KI := hide qKI
      have K20 := hide qK20
      have LL := hide qLL
      have BB := hide qB
      clear qKL qKI qK20 qLL qB
      have cKL := KL.out.cell
      have cKI := KI.out.cell
      go_upto_region 12 with (go_at_call 23; refine (RB.out _ LL.out).mono ?_; unfold RetVBE; rintro e w14 ⟨rfl, hb⟩; dsimp only; have qKL := KL.out.below hb KL.out.lt; have qKI := KI.out.below hb KI.out.lt; have qK20 := K20.out.below hb K20.out.lt; have qLL := LL.out.then_ hb; have qB := thenB BB.out hb; clear KL KI K20 LL BB hb; have KL := hide qKL; have KI := hide qKI; have K20 := hide qK20; have LL := hide qLL; have BB := hide qB; clear qKL qKI qK20 qLL qB; clear cKL cKI)
      obtain ⟨W14, hW14⟩ : ∃ W, W = (w14.alloc (.cells #[.int .i64 ka, .int .i64 kt, .int .i64 kv, .bool kg] 44)) := ⟨_, rfl⟩
      have qKL : Blk W14 (w.heap.size) 25 #[.int .i64 L.last, .slice L.sa L.st.length L.sc, .slice L.oa L.op.length L.oc] := by rw [hW14]; exact (KL.out.alloc _)
      have qKI : Blk W14 (w.heap.size + 2) 31 #[.int .i64 lo, .int .i64 hi] := by rw [hW14]; exact (KI.out.alloc _)
      have qK20 : Blk W14 (w13.heap.size) 44 #[.int .i64 ka, .int .i64 kt, .int .i64 kv, .bool kg] := by rw [hW14]; exact (K20.out.alloc _)
      have qK22 : Blk W14 (w14.heap.size) 44 #[.int .i64 ka, .int .i64 kt, .int .i64 kv, .bool kg] := by
        have hh := (Blk.new w14 44 #[.int .i64 ka, .int .i64 kt, .int .i64 kv, .bool kg])
        (repeat rw [World.size_alloc] at hh)
        rw [hW14]; exact hh
      have qA : Below w14.heap.size w14 W14 := by rw [hW14]; exact ((Below.refl w14.heap.size w14).alloc (by (try simp); (try omega)) _)
      have qB := thenB BB.out qA
      have qLL := LL.out.then_ qA
      have QSW14 := hide (show W14.heap.size = w14.heap.size + 1 by rw [hW14]; simp)
      rw [← hW14]
      clear hW14 qA KL KI K20 LL BB
      have KL := hide qKL
      have KI := hide qKI
      have K20 := hide qK20
      have K22 := hide qK22
      have LL := hide qLL
      have BB := hide qB
      clear qKL qKI qK20 qK22 qLL qB
      have cK20 := K20.out.cell
      have cK22 := K22.out.cell
      have cKL := KL.out.cell
      have cKI := KI.out.cell
      go_upto_region 14 with (go_at_call 24; refine (NA.out _ LL.out).mono ?_; rintro e w15 ⟨rfl, hb⟩; dsimp only; have qKL := KL.out.below hb KL.out.lt; have qKI := KI.out.below hb KI.out.lt; have qK20 := K20.out.below hb K20.out.lt; have qK22 := K22.out.below hb K22.out.lt; have qLL := LL.out.then_ hb; have qB := thenB BB.out hb; clear KL KI K20 K22 LL BB hb; have KL := hide qKL; have KI := hide qKI; have K20 := hide qK20; have K22 := hide qK22; have LL := hide qLL; have BB := hide qB; clear qKL qKI qK20 qK22 qLL qB; clear cK20 cK22 cKL cKI)
      have cKL := KL.out.cell
      have cKI := KI.out.cell
      go_wp2_with (go_at_call 25; refine (NB.out _ LL.out).mono ?_; rintro e w16 ⟨rfl, hb⟩; dsimp only; have qKL := KL.out.below hb KL.out.lt; have qKI := KI.out.below hb KI.out.lt; have qK20 := K20.out.below hb K20.out.lt; have qK22 := K22.out.below hb K22.out.lt; have qLL := LL.out.then_ hb; have qB := thenB BB.out hb; clear KL KI K20 K22 LL BB hb; have KL := hide qKL; have KI := hide qKI; have K20 := hide qK20; have K22 := hide qK22; have LL := hide qLL; have BB := hide qB; clear qKL qKI qK20 qK22 qLL qB; clear cKL cKI)
      go_ret
      exact ⟨rfl, BB.out⟩
end Go.Proofs.Ytcofkflihleckaa
