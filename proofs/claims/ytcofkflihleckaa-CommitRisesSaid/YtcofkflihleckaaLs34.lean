/-
  The walk of the law CommitRises.
-/
import Derived.Test.YtcofkflihleckaaPr34
namespace Go.Proofs.Ytcofkflihleckaa
open Go.RowKit Go.Maps
set_option maxRecDepth 100000 in
set_option maxHeartbeats 16000000 in
theorem rises_any (L : LdV) (v : TxV) (lo hi lo2 hi2 : Int) (w : World) (h : LdW w L) (h' : TxW w v) : Calls Try.prog 4 #[.agg #[.int .i64 L.last, .slice L.sa L.st.length L.sc, .slice L.oa L.op.length L.oc], .agg #[.int .i64 v.t.id, .int .i64 v.t.ts, .slice v.ra v.t.reads.length v.rc, .slice v.wa v.t.writes.length v.wc], .agg #[.int .i64 lo, .int .i64 hi], .agg #[.int .i64 lo2, .int .i64 hi2]] w fun e w' => e = .returned (.bool true) ∧ Below w.heap.size w w' := by
  refine vc_enter (n := 132) Try.func4 rfl rfl rfl (fun a hK => ?_)
  replace hK := hK.weak (K' := [(0, .agg #[.int .i64 L.last, .slice L.sa L.st.length L.sc, .slice L.oa L.op.length L.oc]), (1, .agg #[.int .i64 v.t.id, .int .i64 v.t.ts, .slice v.ra v.t.reads.length v.rc, .slice v.wa v.t.writes.length v.wc]), (2, .agg #[.int .i64 lo, .int .i64 hi]), (3, .agg #[.int .i64 lo2, .int .i64 hi2])]) ⟨rfl, rfl, rfl, rfl, trivial⟩
  have hE := Ev.start w
  replace hE := hE.dat (p := fun W => LdW W L) (fun W hW => LdW.then_ h hW)
  replace hE := hE.dat (p := fun W => TxW W v) (fun W hW => TxW.then_ h' hW)
  replace hE := hE.dat (p := fun W => RS TxV.cells W L.oa L.op) (fun W hW => (LdW.then_ h hW).o.row)
  refine wp_seq ?_
  refine wp_region_lit ?_
  refine st_new (d := 4) (v := fun g => .pointer (some ⟨g, 0, none⟩)) (cs := #[.int .i64 L.last, .slice L.sa L.st.length L.sc, .slice L.oa L.op.length L.oc]) (t := 25) hK hE rfl (fun _ _ => by kernel_rfl) rfl rfl ?_
  clear hK hE a; intro a g1 w2 _ _ hK hE
  refine st_new (d := 5) (v := fun g => .pointer (some ⟨g, 0, none⟩)) (cs := #[.int .i64 v.t.id, .int .i64 v.t.ts, .slice v.ra v.t.reads.length v.rc, .slice v.wa v.t.writes.length v.wc]) (t := 29) hK hE rfl (fun _ _ => by kernel_rfl) rfl rfl ?_
  clear hK hE a; intro a g3 w4 _ _ hK hE
  refine st_new (d := 6) (v := fun g => .pointer (some ⟨g, 0, none⟩)) (cs := #[.int .i64 lo, .int .i64 hi]) (t := 31) hK hE rfl (fun _ _ => by kernel_rfl) rfl rfl ?_
  clear hK hE a; intro a g5 w6 _ _ hK hE
  refine st_new (d := 7) (v := fun g => .pointer (some ⟨g, 0, none⟩)) (cs := #[.int .i64 lo2, .int .i64 hi2]) (t := 31) hK hE rfl (fun _ _ => by kernel_rfl) rfl rfl ?_
  clear hK hE a; intro a g7 w8 _ _ hK hE
  refine st_op (d := 8) (v' := .bool false) (vs := []) (obs := []) hK rfl (fun _ => by kernel_rfl) trivial rfl rfl rfl ?_
  clear hK a; intro a hK
  refine wpList_nil ?_
  refine xt_norm ?_
  refine wp_seq ?_
  refine wp_region_lit ?_
  refine st_call (d := 16) (f := 10) (args := #[]) hK rfl (fun _ => by kernel_rfl) rfl rfl (head34_any _) ?_
  rintro e w9 ⟨rfl, hb⟩
  refine ⟨_, rfl, ?_⟩
  clear hK a; intro a hK
  replace hE := hE.call hb
  clear hb
  refine st_op (d := 9) (v' := .bool true) (vs := []) (obs := []) hK rfl (fun _ => by kernel_rfl) trivial rfl rfl rfl ?_
  clear hK a; intro a hK
  refine wpList_nil ?_
  refine xt_norm ?_
  refine wp_seq ?_
  refine wp_seq ?_
  refine wp_region_lit ?_
  refine st_op (d := 17) (v' := .agg #[.int .i64 L.last, .slice L.sa L.st.length L.sc, .slice L.oa L.op.length L.oc]) (vs := [.int .i64 L.last, .slice L.sa L.st.length L.sc, .slice L.oa L.op.length L.oc]) (obs := [(⟨g1, 0, none⟩, .int .i64 L.last), (⟨g1, 1, none⟩, .slice L.sa L.st.length L.sc), (⟨g1, 2, none⟩, .slice L.oa L.op.length L.oc)]) hK rfl (fun _ => by kernel_rfl) ⟨((hE.blk 3 rfl).cell 0).trans rfl, ((hE.blk 3 rfl).cell 1).trans rfl, ((hE.blk 3 rfl).cell 2).trans rfl, trivial⟩ rfl rfl rfl ?_
  clear hK a; intro a hK
  refine st_call (d := 18) (f := 26) (args := #[.agg #[.int .i64 L.last, .slice L.sa L.st.length L.sc, .slice L.oa L.op.length L.oc]]) hK rfl (fun _ => by kernel_rfl) rfl rfl (usable_any L _ (hE.get 6 rfl)) ?_
  rintro e w10 ⟨rfl, hb⟩
  refine ⟨_, rfl, ?_⟩
  clear hK a; intro a hK
  replace hE := hE.call hb
  clear hb
  refine st_op (d := 19) (v' := .bool (!(fewLB L.d && L.ok))) (vs := []) (obs := []) hK rfl (fun _ => by kernel_rfl) trivial rfl rfl rfl ?_
  clear hK a; intro a hK
  refine st_op (d := 20) (v' := .bool (!(fewLB L.d && L.ok))) (vs := []) (obs := []) hK rfl (fun _ => by kernel_rfl) trivial rfl rfl rfl ?_
  clear hK a; intro a hK
  rcases Bool.eq_false_or_eq_true (fewLB L.d && L.ok) with hc11 | hc11
  · have hus_ := (Bool.and_eq_true _ _).mp hc11
    have hfew := hus_.1; have hok := hus_.2; have hLS := few_S hfew; have hbd := lead_bd hok; clear hus_
    have hfs := few_small hfew
    have hol : L.op.length ≤ 30 := by have := hfs.2.2; rw [show L.d.op.length = L.op.length from txs_len _] at this; exact this
    replace hK := hK.sub (d := 20) (v' := .bool false) rfl (congrArg (fun b => Value.bool !b) hc11)
    refine st_op (d := 21) (v' := .agg #[.int .i64 v.t.id, .int .i64 v.t.ts, .slice v.ra v.t.reads.length v.rc, .slice v.wa v.t.writes.length v.wc]) (vs := [.int .i64 v.t.id, .int .i64 v.t.ts, .slice v.ra v.t.reads.length v.rc, .slice v.wa v.t.writes.length v.wc]) (obs := [(⟨g3, 0, none⟩, .int .i64 v.t.id), (⟨g3, 1, none⟩, .int .i64 v.t.ts), (⟨g3, 2, none⟩, .slice v.ra v.t.reads.length v.rc), (⟨g3, 3, none⟩, .slice v.wa v.t.writes.length v.wc)]) hK rfl (fun _ => by kernel_rfl) ⟨((hE.blk 2 rfl).cell 0).trans rfl, ((hE.blk 2 rfl).cell 1).trans rfl, ((hE.blk 2 rfl).cell 2).trans rfl, ((hE.blk 2 rfl).cell 3).trans rfl, trivial⟩ rfl rfl rfl ?_
    clear hK a; intro a hK
    refine st_new (d := 22) (v := fun g => .slice (some ⟨g, 0, none⟩) 1 1) (cs := #[.int .i64 v.t.id, .int .i64 v.t.ts, .slice v.ra v.t.reads.length v.rc, .slice v.wa v.t.writes.length v.wc]) (t := 29) hK hE rfl (fun _ _ => by kernel_rfl) rfl rfl ?_
    clear hK hE a; intro a g12 w13 _ _ hK hE
    refine st_call (d := 23) (f := 12) (args := #[.slice (some ⟨g12, 0, none⟩) 1 1]) hK rfl (fun _ => by kernel_rfl) rfl rfl (fewTxs_any (some ⟨g12, 0, none⟩) 1 [v] _ (Nat.le_refl _) (by simp [maxLen]) ⟨by have hh := Rd.of_blk (hE.blk 0 rfl); exact hh, fun x hx => by obtain rfl : x = v := (by simpa using hx); exact (hE.get 6 rfl)⟩) ?_
    rintro e _ ⟨rfl, rfl⟩
    refine ⟨_, rfl, ?_⟩
    clear hK a; intro a hK
    refine st_op (d := 24) (v' := .bool (!(fewTB (txs [v])))) (vs := []) (obs := []) hK rfl (fun _ => by kernel_rfl) trivial rfl rfl rfl ?_
    clear hK a; intro a hK
    refine st_op (d := 25) (v' := .bool (!(fewTB (txs [v])))) (vs := []) (obs := []) hK rfl (fun _ => by kernel_rfl) trivial rfl rfl rfl ?_
    clear hK a; intro a hK
    refine wpList_nil ?_
    refine xt_norm ?_
    rcases Bool.eq_false_or_eq_true (fewTB (txs [v])) with hc14 | hc14
    · have hv20 := fewT_small (t := v.t) hc14
      have hsm : v.t.reads.length ≤ 100 ∧ v.t.writes.length ≤ 100 := by omega
      replace hK := hK.sub (d := 25) (v' := .bool false) rfl (congrArg (fun b => Value.bool !b) hc14)
      refine vc_cond (t := false) hK (fun _ => rfl) ?_
      rw [if_neg (by simp)]
      refine wp_skip ?_
      refine xt_norm ?_
      refine wp_seq ?_
      refine wp_region_lit ?_
      refine st_op (d := 28) (v' := .agg #[.int .i64 L.last, .slice L.sa L.st.length L.sc, .slice L.oa L.op.length L.oc]) (vs := [.int .i64 L.last, .slice L.sa L.st.length L.sc, .slice L.oa L.op.length L.oc]) (obs := [(⟨g1, 0, none⟩, .int .i64 L.last), (⟨g1, 1, none⟩, .slice L.sa L.st.length L.sc), (⟨g1, 2, none⟩, .slice L.oa L.op.length L.oc)]) hK rfl (fun _ => by kernel_rfl) ⟨((hE.blk 4 rfl).cell 0).trans rfl, ((hE.blk 4 rfl).cell 1).trans rfl, ((hE.blk 4 rfl).cell 2).trans rfl, trivial⟩ rfl rfl rfl ?_
      clear hK a; intro a hK
      refine st_op (d := 29) (v' := .agg #[.int .i64 v.t.id, .int .i64 v.t.ts, .slice v.ra v.t.reads.length v.rc, .slice v.wa v.t.writes.length v.wc]) (vs := [.int .i64 v.t.id, .int .i64 v.t.ts, .slice v.ra v.t.reads.length v.rc, .slice v.wa v.t.writes.length v.wc]) (obs := [(⟨g3, 0, none⟩, .int .i64 v.t.id), (⟨g3, 1, none⟩, .int .i64 v.t.ts), (⟨g3, 2, none⟩, .slice v.ra v.t.reads.length v.rc), (⟨g3, 3, none⟩, .slice v.wa v.t.writes.length v.wc)]) hK rfl (fun _ => by kernel_rfl) ⟨((hE.blk 3 rfl).cell 0).trans rfl, ((hE.blk 3 rfl).cell 1).trans rfl, ((hE.blk 3 rfl).cell 2).trans rfl, ((hE.blk 3 rfl).cell 3).trans rfl, trivial⟩ rfl rfl rfl ?_
      clear hK a; intro a hK
      refine st_op (d := 30) (v' := .agg #[.int .i64 lo, .int .i64 hi]) (vs := [.int .i64 lo, .int .i64 hi]) (obs := [(⟨g5, 0, none⟩, .int .i64 lo), (⟨g5, 1, none⟩, .int .i64 hi)]) hK rfl (fun _ => by kernel_rfl) ⟨((hE.blk 2 rfl).cell 0).trans rfl, ((hE.blk 2 rfl).cell 1).trans rfl, trivial⟩ rfl rfl rfl ?_
      clear hK a; intro a hK
      have hltg3_15 := (hE.blk 3 rfl).lt
      refine st_call (d := 31) (f := 13) (args := #[.agg #[.int .i64 L.last, .slice L.sa L.st.length L.sc, .slice L.oa L.op.length L.oc], .agg #[.int .i64 v.t.id, .int .i64 v.t.ts, .slice v.ra v.t.reads.length v.rc, .slice v.wa v.t.writes.length v.wc], .agg #[.int .i64 lo, .int .i64 hi]]) hK rfl (fun _ => by kernel_rfl) rfl rfl (stamp_anyF L v lo hi _ hLS hsm (hE.get 7 rfl) (hE.get 6 rfl)) ?_
      rintro e w17 ⟨M15, v16, rfl, hM15, hv15, hl15, hx15, hfr15, hb⟩
      refine ⟨_, rfl, ?_⟩
      clear hK a; intro a hK
      replace hE := hE.call hb
      clear hb
      replace hE := hE.dat (p := fun W => LdW W M15) (fun W hW => LdW.then_ hl15 hW)
      replace hE := hE.dat (p := fun W => TxW W v16) (fun W hW => TxW.then_ hx15 hW)
      refine st_op (d := 27) (v' := .tuple #[.agg #[.int .i64 M15.last, .slice M15.sa M15.st.length M15.sc, .slice M15.oa M15.op.length M15.oc], .agg #[.int .i64 v16.t.id, .int .i64 v16.t.ts, .slice v16.ra v16.t.reads.length v16.rc, .slice v16.wa v16.t.writes.length v16.wc], .int .i64 (stampS L.d v.t lo hi).2.2]) (vs := []) (obs := []) hK rfl (fun _ => by kernel_rfl) trivial rfl rfl rfl ?_
      clear hK a; intro a hK
      refine st_op (d := 32) (v' := .agg #[.int .i64 M15.last, .slice M15.sa M15.st.length M15.sc, .slice M15.oa M15.op.length M15.oc]) (vs := []) (obs := []) hK rfl (fun _ => by kernel_rfl) trivial rfl rfl rfl ?_
      clear hK a; intro a hK
      refine st_op (d := 33) (v' := .agg #[.int .i64 v16.t.id, .int .i64 v16.t.ts, .slice v16.ra v16.t.reads.length v16.rc, .slice v16.wa v16.t.writes.length v16.wc]) (vs := []) (obs := []) hK rfl (fun _ => by kernel_rfl) trivial rfl rfl rfl ?_
      clear hK a; intro a hK
      refine st_op (d := 34) (v' := .int .i64 (stampS L.d v.t lo hi).2.2) (vs := []) (obs := []) hK rfl (fun _ => by kernel_rfl) trivial rfl rfl rfl ?_
      clear hK a; intro a hK
      refine st_new (d := 10) (v := fun g => .pointer (some ⟨g, 0, none⟩)) (cs := #[.int .i64 0, .slice none 0 0, .slice none 0 0]) (t := 25) hK hE rfl (fun _ _ => by kernel_rfl) rfl rfl ?_
      clear hK hE a; intro a g18 w19 _ _ hK hE
      refine st_new (d := 11) (v := fun g => .pointer (some ⟨g, 0, none⟩)) (cs := #[.int .i64 0, .int .i64 0, .slice none 0 0, .slice none 0 0]) (t := 29) hK hE rfl (fun _ _ => by kernel_rfl) rfl rfl ?_
      clear hK hE a; intro a g20 w21 _ _ hK hE
      refine st_store2 1 [(0, .int .i64 M15.last), (1, .slice M15.sa M15.st.length M15.sc), (2, .slice M15.oa M15.op.length M15.oc)] hK hE rfl rfl (fun _ => by kernel_rfl) rfl rfl rfl ?_
      clear hE; intro w22 hs_ hk_ hE
      clear hs_ hk_
      refine st_store2 0 [(0, .int .i64 v16.t.id), (1, .int .i64 v16.t.ts), (2, .slice v16.ra v16.t.reads.length v16.rc), (3, .slice v16.wa v16.t.writes.length v16.wc)] hK hE rfl rfl (fun _ => by kernel_rfl) rfl rfl rfl ?_
      clear hE; intro w23 hs_ hk_ hE
      clear hs_ hk_
      refine st_op (d := 12) (v' := .int .i64 (stampS L.d v.t lo hi).2.2) (vs := []) (obs := []) hK rfl (fun _ => by kernel_rfl) trivial rfl rfl rfl ?_
      clear hK a; intro a hK
      refine wpList_nil ?_
      replace hK := hK.weak (K' := [(4, .pointer (some ⟨g1, 0, none⟩)), (5, .pointer (some ⟨g3, 0, none⟩)), (6, .pointer (some ⟨g5, 0, none⟩)), (7, .pointer (some ⟨g7, 0, none⟩)), (8, .bool false), (9, .bool true), (10, .pointer (some ⟨g18, 0, none⟩)), (11, .pointer (some ⟨g20, 0, none⟩)), (12, .int .i64 (stampS L.d v.t lo hi).2.2)]) ⟨rfl, rfl, rfl, rfl, rfl, rfl, rfl, rfl, rfl, trivial⟩
      refine xt_norm ?_
      refine wp_seq ?_
      refine wp_seq ?_
      refine wp_region_lit ?_
      refine st_op (d := 35) (v' := .int .i64 (stampS L.d v.t lo hi).2.2) (vs := []) (obs := []) hK rfl (fun _ => by kernel_rfl) trivial rfl rfl rfl ?_
      clear hK a; intro a hK
      refine st_op (d := 36) (v' := .bool ((stampS L.d v.t lo hi).2.2 != 0)) (v := .bool (!((stampS L.d v.t lo hi).2.2 == 0))) (vs := []) (obs := []) hK rfl (fun _ => by kernel_rfl) trivial rfl rfl rfl ?_
      clear hK a; intro a hK
      refine wpList_nil ?_
      refine xt_norm ?_
      rcases Bool.eq_false_or_eq_true (((stampS L.d v.t lo hi).2.2 == 0)) with hc24 | hc24
      · have hc24p := eq_of_beq hc24
        have hMl := (lit_stamp (t := v.t) (lo := lo) (hi := hi) (few_lit hfew) hsm (by have := hfs.2.2; omega)).l hM15
        have hla := rises_law hc24p
        have hMS := LdS.stamped hfew hsm hc24p hM15
        have hlst := last_of hM15; have hokM := ok_of hM15 hla.2.2.2.2.1; have hopM := op_of hM15
        rw [← hv15, show (LdV.d L).last = L.last from rfl] at hla
        rw [hla.2.2.2.2.2.1] at hlst; rw [hla.2.2.2.2.2.2.1] at hopM
        replace hK := hK.sub (d := 36) (v' := .bool false) rfl (congrArg (fun b => Value.bool !b) hc24)
        refine vc_cond (t := false) hK (fun _ => rfl) ?_
        rw [if_neg (by simp)]
        refine wp_skip ?_
        refine xt_norm ?_
        refine wp_seq ?_
        refine wp_region_lit ?_
        refine st_op (d := 49) (v' := .agg #[.int .i64 M15.last, .slice M15.sa M15.st.length M15.sc, .slice M15.oa M15.op.length M15.oc]) (vs := [.int .i64 M15.last, .slice M15.sa M15.st.length M15.sc, .slice M15.oa M15.op.length M15.oc]) (obs := [(⟨g18, 0, none⟩, .int .i64 M15.last), (⟨g18, 1, none⟩, .slice M15.sa M15.st.length M15.sc), (⟨g18, 2, none⟩, .slice M15.oa M15.op.length M15.oc)]) hK rfl (fun _ => by kernel_rfl) ⟨((hE.blk 1 rfl).cell 0).trans rfl, ((hE.blk 1 rfl).cell 1).trans rfl, ((hE.blk 1 rfl).cell 2).trans rfl, trivial⟩ rfl rfl rfl ?_
        clear hK a; intro a hK
        refine st_op (d := 50) (v' := .agg #[.int .i64 lo2, .int .i64 hi2]) (vs := [.int .i64 lo2, .int .i64 hi2]) (obs := [(⟨g7, 0, none⟩, .int .i64 lo2), (⟨g7, 1, none⟩, .int .i64 hi2)]) hK rfl (fun _ => by kernel_rfl) ⟨((hE.blk 5 rfl).cell 0).trans rfl, ((hE.blk 5 rfl).cell 1).trans rfl, trivial⟩ rfl rfl rfl ?_
        clear hK a; intro a hK
        refine st_call (d := 51) (f := 19) (args := #[.agg #[.int .i64 M15.last, .slice M15.sa M15.st.length M15.sc, .slice M15.oa M15.op.length M15.oc], .agg #[.int .i64 lo2, .int .i64 hi2]]) hK rfl (fun _ => by kernel_rfl) rfl rfl (show_any M15 lo2 hi2 _ hMS (hE.get 3 rfl)) ?_
        rintro e w29 ⟨M25, A26, c27, m28, rfl, hM25, hm25, hl25, ht25, hc25, hk25, hb⟩
        refine ⟨_, rfl, ?_⟩
        clear hK a; intro a hK
        replace hE := hE.call hb
        clear hb
        replace hE := hE.dat (p := fun W => LdW W M25) (fun W hW => LdW.then_ hl25 hW)
        replace hE := hE.dat (p := fun W => TS W A26 m28) (fun W hW => TS.then_ ht25 hW)
        simp only [maxLen] at hk25
        refine st_op (d := 48) (v' := .tuple #[.agg #[.int .i64 M25.last, .slice M25.sa M25.st.length M25.sc, .slice M25.oa M25.op.length M25.oc], .slice A26 m28.length c27, .int .i64 (showS M15.d lo2 hi2).2.2]) (vs := []) (obs := []) hK rfl (fun _ => by kernel_rfl) trivial rfl rfl rfl ?_
        clear hK a; intro a hK
        refine st_op (d := 52) (v' := .agg #[.int .i64 M25.last, .slice M25.sa M25.st.length M25.sc, .slice M25.oa M25.op.length M25.oc]) (vs := []) (obs := []) hK rfl (fun _ => by kernel_rfl) trivial rfl rfl rfl ?_
        clear hK a; intro a hK
        refine st_op (d := 53) (v' := .slice A26 m28.length c27) (vs := []) (obs := []) hK rfl (fun _ => by kernel_rfl) trivial rfl rfl rfl ?_
        clear hK a; intro a hK
        refine st_op (d := 54) (v' := .int .i64 (showS M15.d lo2 hi2).2.2) (vs := []) (obs := []) hK rfl (fun _ => by kernel_rfl) trivial rfl rfl rfl ?_
        clear hK a; intro a hK
        refine st_new (d := 13) (v := fun g => .pointer (some ⟨g, 0, none⟩)) (cs := #[.int .i64 0, .slice none 0 0, .slice none 0 0]) (t := 25) hK hE rfl (fun _ _ => by kernel_rfl) rfl rfl ?_
        clear hK hE a; intro a g30 w31 _ _ hK hE
        refine st_store2 0 [(0, .int .i64 M25.last), (1, .slice M25.sa M25.st.length M25.sc), (2, .slice M25.oa M25.op.length M25.oc)] hK hE rfl rfl (fun _ => by kernel_rfl) rfl rfl rfl ?_
        clear hE; intro w32 hs_ hk_ hE
        clear hs_ hk_
        refine st_op (d := 14) (v' := .slice A26 m28.length c27) (vs := []) (obs := []) hK rfl (fun _ => by kernel_rfl) trivial rfl rfl rfl ?_
        clear hK a; intro a hK
        refine st_op (d := 15) (v' := .int .i64 (showS M15.d lo2 hi2).2.2) (vs := []) (obs := []) hK rfl (fun _ => by kernel_rfl) trivial rfl rfl rfl ?_
        clear hK a; intro a hK
        refine wpList_nil ?_
        refine xt_norm ?_
        refine wp_seq ?_
        refine wp_region_lit ?_
        refine st_op (d := 55) (v' := .bool true) (vs := []) (obs := []) hK rfl (fun _ => by kernel_rfl) trivial rfl rfl rfl ?_
        clear hK a; intro a hK
        refine st_op (d := 56) (v' := .bool true) (vs := []) (obs := []) hK rfl (fun _ => by kernel_rfl) trivial rfl rfl rfl ?_
        clear hK a; intro a hK
        refine st_op (d := 57) (v' := .int .i64 (showS M15.d lo2 hi2).2.2) (vs := []) (obs := []) hK rfl (fun _ => by kernel_rfl) trivial rfl rfl rfl ?_
        clear hK a; intro a hK
        refine st_op (d := 58) (v' := .bool ((showS M15.d lo2 hi2).2.2 != 0)) (v := .bool (!((showS M15.d lo2 hi2).2.2 == 0))) (vs := []) (obs := []) hK rfl (fun _ => by kernel_rfl) trivial rfl rfl rfl ?_
        clear hK a; intro a hK
        refine st_op (d := 59) (v' := .bool (!((showS M15.d lo2 hi2).2.2 == 0))) (vs := []) (obs := []) hK rfl (fun _ => by kernel_rfl) trivial rfl rfl rfl ?_
        clear hK a; intro a hK
        rcases Bool.eq_false_or_eq_true (((showS M15.d lo2 hi2).2.2 == 0)) with hc33 | hc33
        · have hc33p := eq_of_beq hc33
          have hsl := shown_law hc33p; have hokN := ok_of hM25 hsl.1; have hlaN : M25.last = M15.last := (last_of hM25).trans hsl.2
          have hNS := LdS.shown hMS hc33p hM25
          replace hK := hK.sub (d := 59) (v' := .bool false) rfl (congrArg (fun b => Value.bool !b) hc33)
          refine st_op (d := 60) (v' := .agg #[.int .i64 M25.last, .slice M25.sa M25.st.length M25.sc, .slice M25.oa M25.op.length M25.oc]) (vs := [.int .i64 M25.last, .slice M25.sa M25.st.length M25.sc, .slice M25.oa M25.op.length M25.oc]) (obs := [(⟨g30, 0, none⟩, .int .i64 M25.last), (⟨g30, 1, none⟩, .slice M25.sa M25.st.length M25.sc), (⟨g30, 2, none⟩, .slice M25.oa M25.op.length M25.oc)]) hK rfl (fun _ => by kernel_rfl) ⟨((hE.blk 0 rfl).cell 0).trans rfl, ((hE.blk 0 rfl).cell 1).trans rfl, ((hE.blk 0 rfl).cell 2).trans rfl, trivial⟩ rfl rfl rfl ?_
          clear hK a; intro a hK
          refine st_call (d := 61) (f := 15) (args := #[.agg #[.int .i64 M25.last, .slice M25.sa M25.st.length M25.sc, .slice M25.oa M25.op.length M25.oc]]) hK rfl (fun _ => by kernel_rfl) rfl rfl (lv_any M25 _ hNS (hE.get 2 rfl)) ?_
          rintro e w34 ⟨rfl, hb⟩
          refine ⟨_, rfl, ?_⟩
          clear hK a; intro a hK
          replace hE := hE.call hb
          clear hb
          refine st_op (d := 62) (v' := .bool M25.ok) (vs := []) (obs := []) hK rfl (fun _ => by kernel_rfl) trivial rfl rfl rfl ?_
          clear hK a; intro a hK
          have hd35 : (M25.ok) = true := hokN
          replace hK := hK.sub (d := 62) (v' := .bool true) rfl (congrArg Value.bool hd35)
          refine st_op (d := 63) (v' := .pointer (some ⟨g30, 0, none⟩)) (vs := []) (obs := []) hK rfl (fun _ => by kernel_rfl) trivial rfl rfl rfl ?_
          clear hK a; intro a hK
          refine st_op (d := 64) (v' := .int .i64 M25.last) (vs := [.int .i64 M25.last]) (obs := [(⟨g30, 0, none⟩, .int .i64 M25.last)]) hK rfl (fun _ => by kernel_rfl) ⟨((hE.blk 0 rfl).cell 0).trans rfl, trivial⟩ rfl rfl rfl ?_
          clear hK a; intro a hK
          refine st_op (d := 65) (v' := .pointer (some ⟨g18, 0, none⟩)) (vs := []) (obs := []) hK rfl (fun _ => by kernel_rfl) trivial rfl rfl rfl ?_
          clear hK a; intro a hK
          refine st_op (d := 66) (v' := .int .i64 M15.last) (vs := [.int .i64 M15.last]) (obs := [(⟨g18, 0, none⟩, .int .i64 M15.last)]) hK rfl (fun _ => by kernel_rfl) ⟨((hE.blk 4 rfl).cell 0).trans rfl, trivial⟩ rfl rfl rfl ?_
          clear hK a; intro a hK
          refine st_op (d := 67) (v' := .bool (M25.last == M15.last)) (vs := []) (obs := []) hK rfl (fun _ => by kernel_rfl) trivial rfl rfl rfl ?_
          clear hK a; intro a hK
          refine st_op (d := 68) (v' := .bool (M25.last == M15.last)) (vs := []) (obs := []) hK rfl (fun _ => by kernel_rfl) trivial rfl rfl rfl ?_
          clear hK a; intro a hK
          refine st_op (d := 69) (v' := .bool (M25.last == M15.last)) (vs := []) (obs := []) hK rfl (fun _ => by kernel_rfl) trivial rfl rfl rfl ?_
          clear hK a; intro a hK
          refine st_op (d := 70) (v' := .bool (M25.last == M15.last)) (vs := []) (obs := []) hK rfl (fun _ => by kernel_rfl) trivial rfl rfl rfl ?_
          clear hK a; intro a hK
          refine st_op (d := 9) (v' := .bool (M25.last == M15.last)) (vs := []) (obs := []) hK rfl (fun _ => by kernel_rfl) trivial rfl rfl rfl ?_
          clear hK a; intro a hK
          refine wpList_nil ?_
          replace hK := hK.weak (K' := [(4, .pointer (some ⟨g1, 0, none⟩)), (5, .pointer (some ⟨g3, 0, none⟩)), (6, .pointer (some ⟨g5, 0, none⟩)), (8, .bool false), (9, .bool (M25.last == M15.last)), (10, .pointer (some ⟨g18, 0, none⟩)), (11, .pointer (some ⟨g20, 0, none⟩))]) ⟨rfl, rfl, rfl, rfl, rfl, rfl, rfl, trivial⟩
          refine xt_norm ?_
          refine wp_seq ?_
          refine wp_region_lit ?_
          refine st_op (d := 71) (v' := .pointer (some ⟨g20, 1, none⟩)) (vs := []) (obs := []) hK rfl (fun _ => by kernel_rfl) trivial rfl rfl rfl ?_
          clear hK a; intro a hK
          refine st_op (d := 72) (v' := .int .i64 v16.t.ts) (vs := [.int .i64 v16.t.ts]) (obs := [(⟨g20, 1, none⟩, .int .i64 v16.t.ts)]) hK rfl (fun _ => by kernel_rfl) ⟨((hE.blk 3 rfl).cell 1).trans rfl, trivial⟩ rfl rfl rfl ?_
          clear hK a; intro a hK
          refine st_op (d := 73) (v' := .pointer (some ⟨g3, 1, none⟩)) (vs := []) (obs := []) hK rfl (fun _ => by kernel_rfl) trivial rfl rfl rfl ?_
          clear hK a; intro a hK
          have hp37 := hE.get 5 rfl
          have hp38 := hE.get 6 rfl
          replace hE := hE.drop (.cons_cons _ (.cons _ (.cons _ (.cons_cons _ (.cons_cons _ (.cons _ (.cons _ (.cons_cons _ (.cons_cons _ (.cons_cons _ (.cons_cons _ (.cons_cons _ (.cons_cons _ (.cons_cons _ (.cons_cons _ .slnil)))))))))))))))
          refine st_store2 6 [(1, .int .i64 v16.t.ts)] hK hE rfl rfl (fun _ => by kernel_rfl) rfl rfl rfl ?_
          clear hE; intro w36 hs_ hk_ hE
          have hq39 := LdW.frame hfr15 hltg3_15 hp38 hs_ hk_
          replace hE := hE.dat (p := fun W => LdW W M15) (fun W hW => (fun h => h.then_ hW) hq39)
          clear hq39
          have hq40 := TxW.frame hfr15 hltg3_15 hp37 hs_ hk_
          replace hE := hE.dat (p := fun W => TxW W v16) (fun W hW => (fun h => h.then_ hW) hq40)
          clear hq40
          clear hp37 hp38
          clear hs_ hk_
          refine wpList_nil ?_
          refine xt_norm ?_
          refine wp_seq ?_
          have hE0 := hE
          refine hd_begin rfl ?_
          replace hE := hE.drew
          have hS : Below w36.heap.size w36 w36.drew := (Below.refl _ _).drew
          generalize w36.drew = w41 at hE hS ⊢
          refine hd_take (i := 0) (d := 74) (v' := .bool (M25.last == M15.last)) (vs := []) (obs := []) #[true, false, false, false, false, false, false, false, false, false, false, false, false, false, false, false, false, false, false, false, false, false, false, false, false, false, false, false, false, false, false, false, false, false, false, false, false, false, false, false, false, false, false, false, false, false, false, false, false, false, false, false, false, false, false, false, false, false, false] (by kernel_rfl) hK hS rfl (by kernel_rfl) (by kernel_rfl) (by kernel_rfl) (by kernel_rfl) (fun _ _ _ h => h) (fun _ => by kernel_rfl) (fun W hW => trivial) rfl rfl rfl ?_
          clear hK a; intro a hK
          refine hd_take (i := 1) (d := 75) (v' := .bool (M25.last == M15.last)) (vs := []) (obs := []) #[true, true, false, false, false, false, false, false, false, false, false, false, false, false, false, false, false, false, false, false, false, false, false, false, false, false, false, false, false, false, false, false, false, false, false, false, false, false, false, false, false, false, false, false, false, false, false, false, false, false, false, false, false, false, false, false, false, false, false] (by kernel_rfl) hK hS rfl (by kernel_rfl) (by kernel_rfl) (by kernel_rfl) (by kernel_rfl) (fun _ _ _ h => h) (fun _ => by kernel_rfl) (fun W hW => trivial) rfl rfl rfl ?_
          clear hK a; intro a hK
          have hd42 : ((M25.last == M15.last)) = true := by rw [hlaN]; exact beq_self_eq_true _
          replace hK := hK.sub (d := 75) (v' := .bool true) rfl (congrArg Value.bool hd42)
          refine hd_take (i := 2) (d := 76) (v' := .pointer (some ⟨g20, 1, none⟩)) (vs := []) (obs := []) #[true, true, true, false, false, false, false, false, false, false, false, false, false, false, false, false, false, false, false, false, false, false, false, false, false, false, false, false, false, false, false, false, false, false, false, false, false, false, false, false, false, false, false, false, false, false, false, false, false, false, false, false, false, false, false, false, false, false, false] (by kernel_rfl) hK hS rfl (by kernel_rfl) (by kernel_rfl) (by kernel_rfl) (by kernel_rfl) (fun _ _ _ h => h) (fun _ => by kernel_rfl) (fun W hW => trivial) rfl rfl rfl ?_
          clear hK a; intro a hK
          refine hd_take (i := 3) (d := 77) (v' := .int .i64 v16.t.ts) (vs := [.int .i64 v16.t.ts]) (obs := [(⟨g20, 1, none⟩, .int .i64 v16.t.ts)]) #[true, true, true, true, false, false, false, false, false, false, false, false, false, false, false, false, false, false, false, false, false, false, false, false, false, false, false, false, false, false, false, false, false, false, false, false, false, false, false, false, false, false, false, false, false, false, false, false, false, false, false, false, false, false, false, false, false, false, false] (by kernel_rfl) hK hS rfl (by kernel_rfl) (by kernel_rfl) (by kernel_rfl) (by kernel_rfl) (fun _ _ _ h => h) (fun _ => by kernel_rfl) (fun W hW => ⟨(((hE0.call hW).blk 3 rfl).cell 1).trans rfl, trivial⟩) rfl rfl rfl ?_
          clear hK a; intro a hK
          refine hd_take (i := 4) (d := 78) (v' := .pointer (some ⟨g1, 0, none⟩)) (vs := []) (obs := []) #[true, true, true, true, true, false, false, false, false, false, false, false, false, false, false, false, false, false, false, false, false, false, false, false, false, false, false, false, false, false, false, false, false, false, false, false, false, false, false, false, false, false, false, false, false, false, false, false, false, false, false, false, false, false, false, false, false, false, false] (by kernel_rfl) hK hS rfl (by kernel_rfl) (by kernel_rfl) (by kernel_rfl) (by kernel_rfl) (fun _ _ _ h => h) (fun _ => by kernel_rfl) (fun W hW => trivial) rfl rfl rfl ?_
          clear hK a; intro a hK
          refine hd_take (i := 5) (d := 79) (v' := .int .i64 L.last) (vs := [.int .i64 L.last]) (obs := [(⟨g1, 0, none⟩, .int .i64 L.last)]) #[true, true, true, true, true, true, false, false, false, false, false, false, false, false, false, false, false, false, false, false, false, false, false, false, false, false, false, false, false, false, false, false, false, false, false, false, false, false, false, false, false, false, false, false, false, false, false, false, false, false, false, false, false, false, false, false, false, false, false] (by kernel_rfl) hK hS rfl (by kernel_rfl) (by kernel_rfl) (by kernel_rfl) (by kernel_rfl) (fun _ _ _ h => h) (fun _ => by kernel_rfl) (fun W hW => ⟨(((hE0.call hW).blk 9 rfl).cell 0).trans rfl, trivial⟩) rfl rfl rfl ?_
          clear hK a; intro a hK
          refine hd_take (i := 6) (d := 80) (v' := .bool (decide (v16.t.ts > L.last))) (vs := []) (obs := []) #[true, true, true, true, true, true, true, false, false, false, false, false, false, false, false, false, false, false, false, false, false, false, false, false, false, false, false, false, false, false, false, false, false, false, false, false, false, false, false, false, false, false, false, false, false, false, false, false, false, false, false, false, false, false, false, false, false, false, false] (by kernel_rfl) hK hS rfl (by kernel_rfl) (by kernel_rfl) (by kernel_rfl) (by kernel_rfl) (fun _ _ _ h => h) (fun _ => by kernel_rfl) (fun W hW => trivial) rfl rfl rfl ?_
          clear hK a; intro a hK
          refine hd_take (i := 7) (d := 81) (v' := .bool (decide (v16.t.ts > L.last))) (vs := []) (obs := []) #[true, true, true, true, true, true, true, true, false, false, false, false, false, false, false, false, false, false, false, false, false, false, false, false, false, false, false, false, false, false, false, false, false, false, false, false, false, false, false, false, false, false, false, false, false, false, false, false, false, false, false, false, false, false, false, false, false, false, false] (by kernel_rfl) hK hS rfl (by kernel_rfl) (by kernel_rfl) (by kernel_rfl) (by kernel_rfl) (fun _ _ _ h => h) (fun _ => by kernel_rfl) (fun W hW => trivial) rfl rfl rfl ?_
          clear hK a; intro a hK
          refine hd_take (i := 8) (d := 82) (v' := .bool (decide (v16.t.ts > L.last))) (vs := []) (obs := []) #[true, true, true, true, true, true, true, true, true, false, false, false, false, false, false, false, false, false, false, false, false, false, false, false, false, false, false, false, false, false, false, false, false, false, false, false, false, false, false, false, false, false, false, false, false, false, false, false, false, false, false, false, false, false, false, false, false, false, false] (by kernel_rfl) hK hS rfl (by kernel_rfl) (by kernel_rfl) (by kernel_rfl) (by kernel_rfl) (fun _ _ _ h => h) (fun _ => by kernel_rfl) (fun W hW => trivial) rfl rfl rfl ?_
          clear hK a; intro a hK
          have hd43 : (decide (v16.t.ts > L.last)) = true := decide_eq_true hla.1
          replace hK := hK.sub (d := 82) (v' := .bool true) rfl (congrArg Value.bool hd43)
          refine hd_take (i := 9) (d := 83) (v' := .pointer (some ⟨g20, 1, none⟩)) (vs := []) (obs := []) #[true, true, true, true, true, true, true, true, true, true, false, false, false, false, false, false, false, false, false, false, false, false, false, false, false, false, false, false, false, false, false, false, false, false, false, false, false, false, false, false, false, false, false, false, false, false, false, false, false, false, false, false, false, false, false, false, false, false, false] (by kernel_rfl) hK hS rfl (by kernel_rfl) (by kernel_rfl) (by kernel_rfl) (by kernel_rfl) (fun _ _ _ h => h) (fun _ => by kernel_rfl) (fun W hW => trivial) rfl rfl rfl ?_
          clear hK a; intro a hK
          refine hd_take (i := 10) (d := 84) (v' := .int .i64 v16.t.ts) (vs := [.int .i64 v16.t.ts]) (obs := [(⟨g20, 1, none⟩, .int .i64 v16.t.ts)]) #[true, true, true, true, true, true, true, true, true, true, true, false, false, false, false, false, false, false, false, false, false, false, false, false, false, false, false, false, false, false, false, false, false, false, false, false, false, false, false, false, false, false, false, false, false, false, false, false, false, false, false, false, false, false, false, false, false, false, false] (by kernel_rfl) hK hS rfl (by kernel_rfl) (by kernel_rfl) (by kernel_rfl) (by kernel_rfl) (fun _ _ _ h => h) (fun _ => by kernel_rfl) (fun W hW => ⟨(((hE0.call hW).blk 3 rfl).cell 1).trans rfl, trivial⟩) rfl rfl rfl ?_
          clear hK a; intro a hK
          refine hd_take (i := 11) (d := 85) (v' := .pointer (some ⟨g5, 1, none⟩)) (vs := []) (obs := []) #[true, true, true, true, true, true, true, true, true, true, true, true, false, false, false, false, false, false, false, false, false, false, false, false, false, false, false, false, false, false, false, false, false, false, false, false, false, false, false, false, false, false, false, false, false, false, false, false, false, false, false, false, false, false, false, false, false, false, false] (by kernel_rfl) hK hS rfl (by kernel_rfl) (by kernel_rfl) (by kernel_rfl) (by kernel_rfl) (fun _ _ _ h => h) (fun _ => by kernel_rfl) (fun W hW => trivial) rfl rfl rfl ?_
          clear hK a; intro a hK
          refine hd_take (i := 12) (d := 86) (v' := .int .i64 hi) (vs := [.int .i64 hi]) (obs := [(⟨g5, 1, none⟩, .int .i64 hi)]) #[true, true, true, true, true, true, true, true, true, true, true, true, true, false, false, false, false, false, false, false, false, false, false, false, false, false, false, false, false, false, false, false, false, false, false, false, false, false, false, false, false, false, false, false, false, false, false, false, false, false, false, false, false, false, false, false, false, false, false] (by kernel_rfl) hK hS rfl (by kernel_rfl) (by kernel_rfl) (by kernel_rfl) (by kernel_rfl) (fun _ _ _ h => h) (fun _ => by kernel_rfl) (fun W hW => ⟨(((hE0.call hW).blk 7 rfl).cell 1).trans rfl, trivial⟩) rfl rfl rfl ?_
          clear hK a; intro a hK
          refine hd_take (i := 13) (d := 87) (v' := .bool (decide (v16.t.ts ≥ hi))) (vs := []) (obs := []) #[true, true, true, true, true, true, true, true, true, true, true, true, true, true, false, false, false, false, false, false, false, false, false, false, false, false, false, false, false, false, false, false, false, false, false, false, false, false, false, false, false, false, false, false, false, false, false, false, false, false, false, false, false, false, false, false, false, false, false] (by kernel_rfl) hK hS rfl (by kernel_rfl) (by kernel_rfl) (by kernel_rfl) (by kernel_rfl) (fun _ _ _ h => h) (fun _ => by kernel_rfl) (fun W hW => trivial) rfl rfl rfl ?_
          clear hK a; intro a hK
          refine hd_take (i := 14) (d := 88) (v' := .bool (decide (v16.t.ts ≥ hi))) (vs := []) (obs := []) #[true, true, true, true, true, true, true, true, true, true, true, true, true, true, true, false, false, false, false, false, false, false, false, false, false, false, false, false, false, false, false, false, false, false, false, false, false, false, false, false, false, false, false, false, false, false, false, false, false, false, false, false, false, false, false, false, false, false, false] (by kernel_rfl) hK hS rfl (by kernel_rfl) (by kernel_rfl) (by kernel_rfl) (by kernel_rfl) (fun _ _ _ h => h) (fun _ => by kernel_rfl) (fun W hW => trivial) rfl rfl rfl ?_
          clear hK a; intro a hK
          refine hd_take (i := 15) (d := 89) (v' := .bool (decide (v16.t.ts ≥ hi))) (vs := []) (obs := []) #[true, true, true, true, true, true, true, true, true, true, true, true, true, true, true, true, false, false, false, false, false, false, false, false, false, false, false, false, false, false, false, false, false, false, false, false, false, false, false, false, false, false, false, false, false, false, false, false, false, false, false, false, false, false, false, false, false, false, false] (by kernel_rfl) hK hS rfl (by kernel_rfl) (by kernel_rfl) (by kernel_rfl) (by kernel_rfl) (fun _ _ _ h => h) (fun _ => by kernel_rfl) (fun W hW => trivial) rfl rfl rfl ?_
          clear hK a; intro a hK
          have hd44 : (decide (v16.t.ts ≥ hi)) = true := decide_eq_true hla.2.1
          replace hK := hK.sub (d := 89) (v' := .bool true) rfl (congrArg Value.bool hd44)
          refine hd_take (i := 16) (d := 90) (v' := .pointer (some ⟨g20, 1, none⟩)) (vs := []) (obs := []) #[true, true, true, true, true, true, true, true, true, true, true, true, true, true, true, true, true, false, false, false, false, false, false, false, false, false, false, false, false, false, false, false, false, false, false, false, false, false, false, false, false, false, false, false, false, false, false, false, false, false, false, false, false, false, false, false, false, false, false] (by kernel_rfl) hK hS rfl (by kernel_rfl) (by kernel_rfl) (by kernel_rfl) (by kernel_rfl) (fun _ _ _ h => h) (fun _ => by kernel_rfl) (fun W hW => trivial) rfl rfl rfl ?_
          clear hK a; intro a hK
          refine hd_take (i := 17) (d := 91) (v' := .int .i64 v16.t.ts) (vs := [.int .i64 v16.t.ts]) (obs := [(⟨g20, 1, none⟩, .int .i64 v16.t.ts)]) #[true, true, true, true, true, true, true, true, true, true, true, true, true, true, true, true, true, true, false, false, false, false, false, false, false, false, false, false, false, false, false, false, false, false, false, false, false, false, false, false, false, false, false, false, false, false, false, false, false, false, false, false, false, false, false, false, false, false, false] (by kernel_rfl) hK hS rfl (by kernel_rfl) (by kernel_rfl) (by kernel_rfl) (by kernel_rfl) (fun _ _ _ h => h) (fun _ => by kernel_rfl) (fun W hW => ⟨(((hE0.call hW).blk 3 rfl).cell 1).trans rfl, trivial⟩) rfl rfl rfl ?_
          clear hK a; intro a hK
          refine hd_take (i := 18) (d := 92) (v' := .pointer (some ⟨g1, 0, none⟩)) (vs := []) (obs := []) #[true, true, true, true, true, true, true, true, true, true, true, true, true, true, true, true, true, true, true, false, false, false, false, false, false, false, false, false, false, false, false, false, false, false, false, false, false, false, false, false, false, false, false, false, false, false, false, false, false, false, false, false, false, false, false, false, false, false, false] (by kernel_rfl) hK hS rfl (by kernel_rfl) (by kernel_rfl) (by kernel_rfl) (by kernel_rfl) (fun _ _ _ h => h) (fun _ => by kernel_rfl) (fun W hW => trivial) rfl rfl rfl ?_
          clear hK a; intro a hK
          refine hd_take (i := 19) (d := 93) (v' := .int .i64 L.last) (vs := [.int .i64 L.last]) (obs := [(⟨g1, 0, none⟩, .int .i64 L.last)]) #[true, true, true, true, true, true, true, true, true, true, true, true, true, true, true, true, true, true, true, true, false, false, false, false, false, false, false, false, false, false, false, false, false, false, false, false, false, false, false, false, false, false, false, false, false, false, false, false, false, false, false, false, false, false, false, false, false, false, false] (by kernel_rfl) hK hS rfl (by kernel_rfl) (by kernel_rfl) (by kernel_rfl) (by kernel_rfl) (fun _ _ _ h => h) (fun _ => by kernel_rfl) (fun W hW => ⟨(((hE0.call hW).blk 9 rfl).cell 0).trans rfl, trivial⟩) rfl rfl rfl ?_
          clear hK a; intro a hK
          refine hd_take (i := 20) (d := 94) (v' := .int .i64 (IntKind.i64.wrap (L.last + 1))) (v := .int .i64 (L.last + 1)) (vs := []) (obs := []) #[true, true, true, true, true, true, true, true, true, true, true, true, true, true, true, true, true, true, true, true, true, false, false, false, false, false, false, false, false, false, false, false, false, false, false, false, false, false, false, false, false, false, false, false, false, false, false, false, false, false, false, false, false, false, false, false, false, false, false] (by kernel_rfl) hK hS rfl (by kernel_rfl) (by kernel_rfl) (by kernel_rfl) (by kernel_rfl) (fun _ _ _ h => h) (fun _ => by kernel_rfl) (fun W hW => trivial) (congrArg (Value.int .i64) (IntWalk.i64_in _ (by omega))) rfl rfl ?_
          clear hK a; intro a hK
          refine hd_take (i := 21) (d := 95) (v' := .bool (v16.t.ts == (L.last + 1))) (vs := []) (obs := []) #[true, true, true, true, true, true, true, true, true, true, true, true, true, true, true, true, true, true, true, true, true, true, false, false, false, false, false, false, false, false, false, false, false, false, false, false, false, false, false, false, false, false, false, false, false, false, false, false, false, false, false, false, false, false, false, false, false, false, false] (by kernel_rfl) hK hS rfl (by kernel_rfl) (by kernel_rfl) (by kernel_rfl) (by kernel_rfl) (fun _ _ _ h => h) (fun _ => by kernel_rfl) (fun W hW => trivial) rfl rfl rfl ?_
          clear hK a; intro a hK
          refine hd_take (i := 22) (d := 96) (v' := .bool (v16.t.ts == (L.last + 1))) (vs := []) (obs := []) #[true, true, true, true, true, true, true, true, true, true, true, true, true, true, true, true, true, true, true, true, true, true, true, false, false, false, false, false, false, false, false, false, false, false, false, false, false, false, false, false, false, false, false, false, false, false, false, false, false, false, false, false, false, false, false, false, false, false, false] (by kernel_rfl) hK hS rfl (by kernel_rfl) (by kernel_rfl) (by kernel_rfl) (by kernel_rfl) (fun _ _ _ h => h) (fun _ => by kernel_rfl) (fun W hW => trivial) rfl rfl rfl ?_
          clear hK a; intro a hK
          rcases Bool.eq_false_or_eq_true ((v16.t.ts == (L.last + 1))) with hc45 | hc45
          · have hc45p := eq_of_beq hc45
            replace hK := hK.sub (d := 96) (v' := .bool true) rfl (congrArg Value.bool hc45)
            refine hd_skip (i := 23) (d := 97) #[true, true, true, true, true, true, true, true, true, true, true, true, true, true, true, true, true, true, true, true, true, true, true, true, false, false, false, false, false, false, false, false, false, false, false, false, false, false, false, false, false, false, false, false, false, false, false, false, false, false, false, false, false, false, false, false, false, false, false] (by kernel_rfl) hK hS rfl (by kernel_rfl) (by kernel_rfl) (by kernel_rfl) (by kernel_rfl) (fun _ _ _ h => h) rfl rfl ?_
            clear hK a; intro a hK
            refine hd_skip (i := 24) (d := 98) #[true, true, true, true, true, true, true, true, true, true, true, true, true, true, true, true, true, true, true, true, true, true, true, true, true, false, false, false, false, false, false, false, false, false, false, false, false, false, false, false, false, false, false, false, false, false, false, false, false, false, false, false, false, false, false, false, false, false, false] (by kernel_rfl) hK hS rfl (by kernel_rfl) (by kernel_rfl) (by kernel_rfl) (by kernel_rfl) (fun _ _ _ h => h) rfl rfl ?_
            clear hK a; intro a hK
            refine hd_skip (i := 25) (d := 99) #[true, true, true, true, true, true, true, true, true, true, true, true, true, true, true, true, true, true, true, true, true, true, true, true, true, true, false, false, false, false, false, false, false, false, false, false, false, false, false, false, false, false, false, false, false, false, false, false, false, false, false, false, false, false, false, false, false, false, false] (by kernel_rfl) hK hS rfl (by kernel_rfl) (by kernel_rfl) (by kernel_rfl) (by kernel_rfl) (fun _ _ _ h => h) rfl rfl ?_
            clear hK a; intro a hK
            refine hd_skip (i := 26) (d := 100) #[true, true, true, true, true, true, true, true, true, true, true, true, true, true, true, true, true, true, true, true, true, true, true, true, true, true, true, false, false, false, false, false, false, false, false, false, false, false, false, false, false, false, false, false, false, false, false, false, false, false, false, false, false, false, false, false, false, false, false] (by kernel_rfl) hK hS rfl (by kernel_rfl) (by kernel_rfl) (by kernel_rfl) (by kernel_rfl) (fun _ _ _ h => h) rfl rfl ?_
            clear hK a; intro a hK
            refine hd_skip (i := 27) (d := 101) #[true, true, true, true, true, true, true, true, true, true, true, true, true, true, true, true, true, true, true, true, true, true, true, true, true, true, true, true, false, false, false, false, false, false, false, false, false, false, false, false, false, false, false, false, false, false, false, false, false, false, false, false, false, false, false, false, false, false, false] (by kernel_rfl) hK hS rfl (by kernel_rfl) (by kernel_rfl) (by kernel_rfl) (by kernel_rfl) (fun _ _ _ h => h) rfl rfl ?_
            clear hK a; intro a hK
            refine hd_take (i := 28) (d := 102) (v' := .bool true) (vs := []) (obs := []) #[true, true, true, true, true, true, true, true, true, true, true, true, true, true, true, true, true, true, true, true, true, true, true, true, true, true, true, true, true, false, false, false, false, false, false, false, false, false, false, false, false, false, false, false, false, false, false, false, false, false, false, false, false, false, false, false, false, false, false] (by kernel_rfl) hK hS rfl (by kernel_rfl) (by kernel_rfl) (by kernel_rfl) (by kernel_rfl) (fun _ _ _ h => h) (fun _ => by kernel_rfl) (fun W hW => trivial) rfl rfl rfl ?_
            clear hK a; intro a hK
            refine hd_take (i := 29) (d := 103) (v' := .bool true) (vs := []) (obs := []) #[true, true, true, true, true, true, true, true, true, true, true, true, true, true, true, true, true, true, true, true, true, true, true, true, true, true, true, true, true, true, false, false, false, false, false, false, false, false, false, false, false, false, false, false, false, false, false, false, false, false, false, false, false, false, false, false, false, false, false] (by kernel_rfl) hK hS rfl (by kernel_rfl) (by kernel_rfl) (by kernel_rfl) (by kernel_rfl) (fun _ _ _ h => h) (fun _ => by kernel_rfl) (fun W hW => trivial) rfl rfl rfl ?_
            clear hK a; intro a hK
            refine hd_take (i := 30) (d := 104) (v' := .bool true) (vs := []) (obs := []) #[true, true, true, true, true, true, true, true, true, true, true, true, true, true, true, true, true, true, true, true, true, true, true, true, true, true, true, true, true, true, true, false, false, false, false, false, false, false, false, false, false, false, false, false, false, false, false, false, false, false, false, false, false, false, false, false, false, false, false] (by kernel_rfl) hK hS rfl (by kernel_rfl) (by kernel_rfl) (by kernel_rfl) (by kernel_rfl) (fun _ _ _ h => h) (fun _ => by kernel_rfl) (fun W hW => trivial) rfl rfl rfl ?_
            clear hK a; intro a hK
            refine hd_take (i := 31) (d := 105) (v' := .agg #[.int .i64 v.t.id, .int .i64 v16.t.ts, .slice v.ra v.t.reads.length v.rc, .slice v.wa v.t.writes.length v.wc]) (vs := [.int .i64 v.t.id, .int .i64 v16.t.ts, .slice v.ra v.t.reads.length v.rc, .slice v.wa v.t.writes.length v.wc]) (obs := [(⟨g3, 0, none⟩, .int .i64 v.t.id), (⟨g3, 1, none⟩, .int .i64 v16.t.ts), (⟨g3, 2, none⟩, .slice v.ra v.t.reads.length v.rc), (⟨g3, 3, none⟩, .slice v.wa v.t.writes.length v.wc)]) #[true, true, true, true, true, true, true, true, true, true, true, true, true, true, true, true, true, true, true, true, true, true, true, true, true, true, true, true, true, true, true, true, false, false, false, false, false, false, false, false, false, false, false, false, false, false, false, false, false, false, false, false, false, false, false, false, false, false, false] (by kernel_rfl) hK hS rfl (by kernel_rfl) (by kernel_rfl) (by kernel_rfl) (by kernel_rfl) (fun _ _ _ h => h) (fun _ => by kernel_rfl) (fun W hW => ⟨(((hE0.call hW).blk 8 rfl).cell 0).trans rfl, (((hE0.call hW).blk 8 rfl).cell 1).trans rfl, (((hE0.call hW).blk 8 rfl).cell 2).trans rfl, (((hE0.call hW).blk 8 rfl).cell 3).trans rfl, trivial⟩) rfl rfl rfl ?_
            clear hK a; intro a hK
            refine hd_take (i := 32) (d := 106) (v' := .agg #[.int .i64 v16.t.id, .int .i64 v16.t.ts, .slice v16.ra v16.t.reads.length v16.rc, .slice v16.wa v16.t.writes.length v16.wc]) (vs := [.int .i64 v16.t.id, .int .i64 v16.t.ts, .slice v16.ra v16.t.reads.length v16.rc, .slice v16.wa v16.t.writes.length v16.wc]) (obs := [(⟨g20, 0, none⟩, .int .i64 v16.t.id), (⟨g20, 1, none⟩, .int .i64 v16.t.ts), (⟨g20, 2, none⟩, .slice v16.ra v16.t.reads.length v16.rc), (⟨g20, 3, none⟩, .slice v16.wa v16.t.writes.length v16.wc)]) #[true, true, true, true, true, true, true, true, true, true, true, true, true, true, true, true, true, true, true, true, true, true, true, true, true, true, true, true, true, true, true, true, true, false, false, false, false, false, false, false, false, false, false, false, false, false, false, false, false, false, false, false, false, false, false, false, false, false, false] (by kernel_rfl) hK hS rfl (by kernel_rfl) (by kernel_rfl) (by kernel_rfl) (by kernel_rfl) (fun _ _ _ h => h) (fun _ => by kernel_rfl) (fun W hW => ⟨(((hE0.call hW).blk 3 rfl).cell 0).trans rfl, (((hE0.call hW).blk 3 rfl).cell 1).trans rfl, (((hE0.call hW).blk 3 rfl).cell 2).trans rfl, (((hE0.call hW).blk 3 rfl).cell 3).trans rfl, trivial⟩) rfl rfl rfl ?_
            clear hK a; intro a hK
            refine hd_all [33] (by kernel_rfl) (by simp) ⟨?_, trivial⟩
            refine hd_call (d := 107) (f := 18) (args := #[.agg #[.int .i64 v.t.id, .int .i64 v16.t.ts, .slice v.ra v.t.reads.length v.rc, .slice v.wa v.t.writes.length v.wc], .agg #[.int .i64 v16.t.id, .int .i64 v16.t.ts, .slice v16.ra v16.t.reads.length v16.rc, .slice v16.wa v16.t.writes.length v16.wc]]) rfl hK hS rfl (fun _ => by kernel_rfl) rfl rfl (rSameTx_any (⟨v.t.at v16.t.ts, v.ra, v.rc, v.wa, v.wc⟩ : TxV) v16 _ hsm (TxW.at_ts (hE.get 11 rfl) _) (hE.get 0 rfl)) ?_
            rintro e w46 ⟨rfl, hb⟩
            refine ⟨_, rfl, hb, ?_⟩
            clear hK a hS; intro a hK hS
            replace hE := hE.call hb
            clear hb
            refine hd_take (i := 34) (d := 108) (v' := .bool (decide (TxV.t (⟨v.t.at v16.t.ts, v.ra, v.rc, v.wa, v.wc⟩ : TxV) = v16.t))) (vs := []) (obs := []) #[true, true, true, true, true, true, true, true, true, true, true, true, true, true, true, true, true, true, true, true, true, true, true, true, true, true, true, true, true, true, true, true, true, true, true, false, false, false, false, false, false, false, false, false, false, false, false, false, false, false, false, false, false, false, false, false, false, false, false] (by kernel_rfl) hK hS rfl (by kernel_rfl) (by kernel_rfl) (by kernel_rfl) (by kernel_rfl) (fun _ _ _ h => h) (fun _ => by kernel_rfl) (fun W hW => trivial) rfl rfl rfl ?_
            clear hK a; intro a hK
            refine hd_take (i := 35) (d := 109) (v' := .bool (decide (TxV.t (⟨v.t.at v16.t.ts, v.ra, v.rc, v.wa, v.wc⟩ : TxV) = v16.t))) (vs := []) (obs := []) #[true, true, true, true, true, true, true, true, true, true, true, true, true, true, true, true, true, true, true, true, true, true, true, true, true, true, true, true, true, true, true, true, true, true, true, true, false, false, false, false, false, false, false, false, false, false, false, false, false, false, false, false, false, false, false, false, false, false, false] (by kernel_rfl) hK hS rfl (by kernel_rfl) (by kernel_rfl) (by kernel_rfl) (by kernel_rfl) (fun _ _ _ h => h) (fun _ => by kernel_rfl) (fun W hW => trivial) rfl rfl rfl ?_
            clear hK a; intro a hK
            have hd47 : (decide (TxV.t (⟨v.t.at v16.t.ts, v.ra, v.rc, v.wa, v.wc⟩ : TxV) = v16.t)) = true := decide_eq_true hla.2.2.2.1
            replace hK := hK.sub (d := 109) (v' := .bool true) rfl (congrArg Value.bool hd47)
            refine hd_take (i := 36) (d := 110) (v' := .agg #[.int .i64 M15.last, .slice M15.sa M15.st.length M15.sc, .slice M15.oa M15.op.length M15.oc]) (vs := [.int .i64 M15.last, .slice M15.sa M15.st.length M15.sc, .slice M15.oa M15.op.length M15.oc]) (obs := [(⟨g18, 0, none⟩, .int .i64 M15.last), (⟨g18, 1, none⟩, .slice M15.sa M15.st.length M15.sc), (⟨g18, 2, none⟩, .slice M15.oa M15.op.length M15.oc)]) #[true, true, true, true, true, true, true, true, true, true, true, true, true, true, true, true, true, true, true, true, true, true, true, true, true, true, true, true, true, true, true, true, true, true, true, true, true, false, false, false, false, false, false, false, false, false, false, false, false, false, false, false, false, false, false, false, false, false, false] (by kernel_rfl) hK hS rfl (by kernel_rfl) (by kernel_rfl) (by kernel_rfl) (by kernel_rfl) (fun _ _ _ h => h) (fun _ => by kernel_rfl) (fun W hW => ⟨(((hE0.call hW).blk 4 rfl).cell 0).trans rfl, (((hE0.call hW).blk 4 rfl).cell 1).trans rfl, (((hE0.call hW).blk 4 rfl).cell 2).trans rfl, trivial⟩) rfl rfl rfl ?_
            clear hK a; intro a hK
            refine hd_all [37] (by kernel_rfl) (by simp) ⟨?_, trivial⟩
            refine hd_call (d := 111) (f := 15) (args := #[.agg #[.int .i64 M15.last, .slice M15.sa M15.st.length M15.sc, .slice M15.oa M15.op.length M15.oc]]) rfl hK hS rfl (fun _ => by kernel_rfl) rfl rfl (lv_any M15 _ hMS (hE.get 1 rfl)) ?_
            rintro e w48 ⟨rfl, hb⟩
            refine ⟨_, rfl, hb, ?_⟩
            clear hK a hS; intro a hK hS
            replace hE := hE.call hb
            clear hb
            refine hd_take (i := 38) (d := 112) (v' := .bool M15.ok) (vs := []) (obs := []) #[true, true, true, true, true, true, true, true, true, true, true, true, true, true, true, true, true, true, true, true, true, true, true, true, true, true, true, true, true, true, true, true, true, true, true, true, true, true, true, false, false, false, false, false, false, false, false, false, false, false, false, false, false, false, false, false, false, false, false] (by kernel_rfl) hK hS rfl (by kernel_rfl) (by kernel_rfl) (by kernel_rfl) (by kernel_rfl) (fun _ _ _ h => h) (fun _ => by kernel_rfl) (fun W hW => trivial) rfl rfl rfl ?_
            clear hK a; intro a hK
            refine hd_take (i := 39) (d := 113) (v' := .bool M15.ok) (vs := []) (obs := []) #[true, true, true, true, true, true, true, true, true, true, true, true, true, true, true, true, true, true, true, true, true, true, true, true, true, true, true, true, true, true, true, true, true, true, true, true, true, true, true, true, false, false, false, false, false, false, false, false, false, false, false, false, false, false, false, false, false, false, false] (by kernel_rfl) hK hS rfl (by kernel_rfl) (by kernel_rfl) (by kernel_rfl) (by kernel_rfl) (fun _ _ _ h => h) (fun _ => by kernel_rfl) (fun W hW => trivial) rfl rfl rfl ?_
            clear hK a; intro a hK
            have hd49 : (M15.ok) = true := hokM
            replace hK := hK.sub (d := 113) (v' := .bool true) rfl (congrArg Value.bool hd49)
            refine hd_take (i := 40) (d := 114) (v' := .pointer (some ⟨g18, 0, none⟩)) (vs := []) (obs := []) #[true, true, true, true, true, true, true, true, true, true, true, true, true, true, true, true, true, true, true, true, true, true, true, true, true, true, true, true, true, true, true, true, true, true, true, true, true, true, true, true, true, false, false, false, false, false, false, false, false, false, false, false, false, false, false, false, false, false, false] (by kernel_rfl) hK hS rfl (by kernel_rfl) (by kernel_rfl) (by kernel_rfl) (by kernel_rfl) (fun _ _ _ h => h) (fun _ => by kernel_rfl) (fun W hW => trivial) rfl rfl rfl ?_
            clear hK a; intro a hK
            refine hd_take (i := 41) (d := 115) (v' := .int .i64 M15.last) (vs := [.int .i64 M15.last]) (obs := [(⟨g18, 0, none⟩, .int .i64 M15.last)]) #[true, true, true, true, true, true, true, true, true, true, true, true, true, true, true, true, true, true, true, true, true, true, true, true, true, true, true, true, true, true, true, true, true, true, true, true, true, true, true, true, true, true, false, false, false, false, false, false, false, false, false, false, false, false, false, false, false, false, false] (by kernel_rfl) hK hS rfl (by kernel_rfl) (by kernel_rfl) (by kernel_rfl) (by kernel_rfl) (fun _ _ _ h => h) (fun _ => by kernel_rfl) (fun W hW => ⟨(((hE0.call hW).blk 4 rfl).cell 0).trans rfl, trivial⟩) rfl rfl rfl ?_
            clear hK a; intro a hK
            refine hd_take (i := 42) (d := 116) (v' := .pointer (some ⟨g20, 1, none⟩)) (vs := []) (obs := []) #[true, true, true, true, true, true, true, true, true, true, true, true, true, true, true, true, true, true, true, true, true, true, true, true, true, true, true, true, true, true, true, true, true, true, true, true, true, true, true, true, true, true, true, false, false, false, false, false, false, false, false, false, false, false, false, false, false, false, false] (by kernel_rfl) hK hS rfl (by kernel_rfl) (by kernel_rfl) (by kernel_rfl) (by kernel_rfl) (fun _ _ _ h => h) (fun _ => by kernel_rfl) (fun W hW => trivial) rfl rfl rfl ?_
            clear hK a; intro a hK
            refine hd_take (i := 43) (d := 117) (v' := .int .i64 v16.t.ts) (vs := [.int .i64 v16.t.ts]) (obs := [(⟨g20, 1, none⟩, .int .i64 v16.t.ts)]) #[true, true, true, true, true, true, true, true, true, true, true, true, true, true, true, true, true, true, true, true, true, true, true, true, true, true, true, true, true, true, true, true, true, true, true, true, true, true, true, true, true, true, true, true, false, false, false, false, false, false, false, false, false, false, false, false, false, false, false] (by kernel_rfl) hK hS rfl (by kernel_rfl) (by kernel_rfl) (by kernel_rfl) (by kernel_rfl) (fun _ _ _ h => h) (fun _ => by kernel_rfl) (fun W hW => ⟨(((hE0.call hW).blk 3 rfl).cell 1).trans rfl, trivial⟩) rfl rfl rfl ?_
            clear hK a; intro a hK
            refine hd_take (i := 44) (d := 118) (v' := .bool (M15.last == v16.t.ts)) (vs := []) (obs := []) #[true, true, true, true, true, true, true, true, true, true, true, true, true, true, true, true, true, true, true, true, true, true, true, true, true, true, true, true, true, true, true, true, true, true, true, true, true, true, true, true, true, true, true, true, true, false, false, false, false, false, false, false, false, false, false, false, false, false, false] (by kernel_rfl) hK hS rfl (by kernel_rfl) (by kernel_rfl) (by kernel_rfl) (by kernel_rfl) (fun _ _ _ h => h) (fun _ => by kernel_rfl) (fun W hW => trivial) rfl rfl rfl ?_
            clear hK a; intro a hK
            refine hd_take (i := 45) (d := 119) (v' := .bool (M15.last == v16.t.ts)) (vs := []) (obs := []) #[true, true, true, true, true, true, true, true, true, true, true, true, true, true, true, true, true, true, true, true, true, true, true, true, true, true, true, true, true, true, true, true, true, true, true, true, true, true, true, true, true, true, true, true, true, true, false, false, false, false, false, false, false, false, false, false, false, false, false] (by kernel_rfl) hK hS rfl (by kernel_rfl) (by kernel_rfl) (by kernel_rfl) (by kernel_rfl) (fun _ _ _ h => h) (fun _ => by kernel_rfl) (fun W hW => trivial) rfl rfl rfl ?_
            clear hK a; intro a hK
            refine hd_take (i := 46) (d := 120) (v' := .bool (M15.last == v16.t.ts)) (vs := []) (obs := []) #[true, true, true, true, true, true, true, true, true, true, true, true, true, true, true, true, true, true, true, true, true, true, true, true, true, true, true, true, true, true, true, true, true, true, true, true, true, true, true, true, true, true, true, true, true, true, true, false, false, false, false, false, false, false, false, false, false, false, false] (by kernel_rfl) hK hS rfl (by kernel_rfl) (by kernel_rfl) (by kernel_rfl) (by kernel_rfl) (fun _ _ _ h => h) (fun _ => by kernel_rfl) (fun W hW => trivial) rfl rfl rfl ?_
            clear hK a; intro a hK
            have hd50 : ((M15.last == v16.t.ts)) = true := by rw [hlst]; exact beq_self_eq_true _
            replace hK := hK.sub (d := 120) (v' := .bool true) rfl (congrArg Value.bool hd50)
            refine hd_take (i := 47) (d := 121) (v' := .pointer (some ⟨g18, 2, none⟩)) (vs := []) (obs := []) #[true, true, true, true, true, true, true, true, true, true, true, true, true, true, true, true, true, true, true, true, true, true, true, true, true, true, true, true, true, true, true, true, true, true, true, true, true, true, true, true, true, true, true, true, true, true, true, true, false, false, false, false, false, false, false, false, false, false, false] (by kernel_rfl) hK hS rfl (by kernel_rfl) (by kernel_rfl) (by kernel_rfl) (by kernel_rfl) (fun _ _ _ h => h) (fun _ => by kernel_rfl) (fun W hW => trivial) rfl rfl rfl ?_
            clear hK a; intro a hK
            refine hd_take (i := 48) (d := 122) (v' := .slice M15.oa M15.op.length M15.oc) (vs := [.slice M15.oa M15.op.length M15.oc]) (obs := [(⟨g18, 2, none⟩, .slice M15.oa M15.op.length M15.oc)]) #[true, true, true, true, true, true, true, true, true, true, true, true, true, true, true, true, true, true, true, true, true, true, true, true, true, true, true, true, true, true, true, true, true, true, true, true, true, true, true, true, true, true, true, true, true, true, true, true, true, false, false, false, false, false, false, false, false, false, false] (by kernel_rfl) hK hS rfl (by kernel_rfl) (by kernel_rfl) (by kernel_rfl) (by kernel_rfl) (fun _ _ _ h => h) (fun _ => by kernel_rfl) (fun W hW => ⟨(((hE0.call hW).blk 4 rfl).cell 2).trans rfl, trivial⟩) rfl rfl rfl ?_
            clear hK a; intro a hK
            refine hd_take (i := 50) (d := 124) (v' := .pointer (some ⟨g1, 2, none⟩)) (vs := []) (obs := []) #[true, true, true, true, true, true, true, true, true, true, true, true, true, true, true, true, true, true, true, true, true, true, true, true, true, true, true, true, true, true, true, true, true, true, true, true, true, true, true, true, true, true, true, true, true, true, true, true, true, false, true, false, false, false, false, false, false, false, false] (by kernel_rfl) hK hS rfl (by kernel_rfl) (by kernel_rfl) (by kernel_rfl) (by kernel_rfl) (fun _ _ _ h => h) (fun _ => by kernel_rfl) (fun W hW => trivial) rfl rfl rfl ?_
            clear hK a; intro a hK
            refine hd_take (i := 51) (d := 125) (v' := .slice L.oa L.op.length L.oc) (vs := [.slice L.oa L.op.length L.oc]) (obs := [(⟨g1, 2, none⟩, .slice L.oa L.op.length L.oc)]) #[true, true, true, true, true, true, true, true, true, true, true, true, true, true, true, true, true, true, true, true, true, true, true, true, true, true, true, true, true, true, true, true, true, true, true, true, true, true, true, true, true, true, true, true, true, true, true, true, true, false, true, true, false, false, false, false, false, false, false] (by kernel_rfl) hK hS rfl (by kernel_rfl) (by kernel_rfl) (by kernel_rfl) (by kernel_rfl) (fun _ _ _ h => h) (fun _ => by kernel_rfl) (fun W hW => ⟨(((hE0.call hW).blk 9 rfl).cell 2).trans rfl, trivial⟩) rfl rfl rfl ?_
            clear hK a; intro a hK
            refine hd_take (i := 53) (d := 127) (v' := .agg #[.int .i64 v16.t.id, .int .i64 v16.t.ts, .slice v16.ra v16.t.reads.length v16.rc, .slice v16.wa v16.t.writes.length v16.wc]) (vs := [.int .i64 v16.t.id, .int .i64 v16.t.ts, .slice v16.ra v16.t.reads.length v16.rc, .slice v16.wa v16.t.writes.length v16.wc]) (obs := [(⟨g20, 0, none⟩, .int .i64 v16.t.id), (⟨g20, 1, none⟩, .int .i64 v16.t.ts), (⟨g20, 2, none⟩, .slice v16.ra v16.t.reads.length v16.rc), (⟨g20, 3, none⟩, .slice v16.wa v16.t.writes.length v16.wc)]) #[true, true, true, true, true, true, true, true, true, true, true, true, true, true, true, true, true, true, true, true, true, true, true, true, true, true, true, true, true, true, true, true, true, true, true, true, true, true, true, true, true, true, true, true, true, true, true, true, true, false, true, true, false, true, false, false, false, false, false] (by kernel_rfl) hK hS rfl (by kernel_rfl) (by kernel_rfl) (by kernel_rfl) (by kernel_rfl) (fun _ _ _ h => h) (fun _ => by kernel_rfl) (fun W hW => ⟨(((hE0.call hW).blk 3 rfl).cell 0).trans rfl, (((hE0.call hW).blk 3 rfl).cell 1).trans rfl, (((hE0.call hW).blk 3 rfl).cell 2).trans rfl, (((hE0.call hW).blk 3 rfl).cell 3).trans rfl, trivial⟩) rfl rfl rfl ?_
            clear hK a; intro a hK
            refine hd_all [49, 54] (by kernel_rfl) (by simp) ⟨?_, ?_, trivial⟩
            · refine hd_new (d := 123) (v := fun g => .slice (some ⟨g, 0, none⟩) 0 0) (cs := #[]) (t := 29) rfl hK hE hS rfl (fun _ _ => by kernel_rfl) rfl rfl ?_
              have hs_ := hS.size; clear hK hE hS a; intro a g51 w52 hS hg_ hK hE
              have hbg51 : w36.heap.size ≤ g51 := by omega
              clear hg_ hs_
              refine hd_all [52, 54] (by kernel_rfl) (by simp) ⟨?_, ?_, trivial⟩
              · replace hE := hE.own 0 4 0 rfl rfl (by simp only [maxLen]; omega) rfl
                obtain ⟨ti_, hti_, hz_, hm_, hby_⟩ := info_parts (show (Try.prog.info? 29).map (fun i => (i.zero, i.size, i.bytes)) = some (some (.agg #[.int .i64 0, .int .i64 0, .slice none 0 0, .slice none 0 0]), 4, 64) from by kernel_rfl)
                refine hd_ap (d := 126) (news := (L.op.flatMap TxV.cells)) (k2 := L.op.length) (xs2 := (L.op.flatMap TxV.cells)) 0 (Nat.zero_add _) (List.nil_append _) rfl hS hK hE rfl rfl (fun _ => rfl) (fun _ => rfl) Try.underlying23 hti_ hz_ hm_ hby_ rfl (by decide) rfl (fun g hg => by injection hg with hg; subst hg; exact hbg51) (by rw [flat_len TxV.cells 4 TxV.len]) (hE.get 11 rfl) (tx_one L.op) (by simp only [maxLen]; omega) (by omega) rfl rfl ?_
                clear hK hE a hS ti_ hti_ hz_ hm_ hby_; intro A53 c54 a w55 hl56 hm57 hS hr58 hK hev_
                have hE := hev_ _ rfl
                clear hev_
                refine hd_all [54] (by kernel_rfl) (by simp) ⟨?_, trivial⟩
                refine hd_new (d := 128) (v := fun g => .slice (some ⟨g, 0, none⟩) 1 1) (cs := #[.int .i64 v16.t.id, .int .i64 v16.t.ts, .slice v16.ra v16.t.reads.length v16.rc, .slice v16.wa v16.t.writes.length v16.wc]) (t := 29) rfl hK hE hS rfl (fun _ _ => by kernel_rfl) rfl rfl ?_
                have hs_ := hS.size; clear hK hE hS a; intro a g59 w60 hS hg_ hK hE
                have hbg59 : w36.heap.size ≤ g59 := by omega
                clear hg_ hs_
                refine hd_all [55] (by kernel_rfl) (by simp) ⟨?_, trivial⟩
                obtain ⟨ti_, hti_, hz_, hm_, hby_⟩ := info_parts (show (Try.prog.info? 29).map (fun i => (i.zero, i.size, i.bytes)) = some (some (.agg #[.int .i64 0, .int .i64 0, .slice none 0 0, .slice none 0 0]), 4, 64) from by kernel_rfl)
                refine hd_ap (d := 129) (news := [.int .i64 v16.t.id, .int .i64 v16.t.ts, .slice v16.ra v16.t.reads.length v16.rc, .slice v16.wa v16.t.writes.length v16.wc]) (k2 := (L.op ++ [v16]).length) (xs2 := ((L.op ++ [v16]).flatMap TxV.cells)) 1 (by simp) (by rw [List.flatMap_append]; first | done | rfl) rfl hS hK hE rfl rfl (fun _ => rfl) (fun _ => rfl) Try.underlying23 hti_ hz_ hm_ hby_ rfl (by decide) rfl hr58 (by rfl) (Rd.of_blk (hE.blk 0 rfl)) (List.all_eq_true.1 (by kernel_rfl : List.all [.int .i64 v16.t.id, .int .i64 v16.t.ts, .slice v16.ra v16.t.reads.length v16.rc, .slice v16.wa v16.t.writes.length v16.wc] Value.oneCell' = true)) (by simp only [maxLen]; omega) (by omega) rfl rfl ?_
                clear hK hE a hS ti_ hti_ hz_ hm_ hby_; intro A61 c62 a w63 hl64 hm65 hS hr66 hK hev_
                have hE := hev_ _ rfl
                clear hev_
                refine hd_all [56] (by kernel_rfl) (by simp) ⟨?_, trivial⟩
                refine hd_call (d := 130) (f := 21) (args := #[.slice M15.oa M15.op.length M15.oc, .slice A61 (L.op ++ [v16]).length c62]) rfl hK hS rfl (fun _ => by kernel_rfl) rfl rfl (rSameTxs_any M15.oa A61 M15.oc c62 M15.op (L.op ++ [v16]) _ hMl.1 hMl.2.2 (by simp; omega) (LdW.o (hE.get 3 rfl)) ⟨hE.rd 1 rfl, fun x hx => by rcases List.mem_append.1 hx with hx | hx; exact (LdW.o (hE.get 14 rfl)).each x hx; obtain rfl : x = v16 := (by simpa using hx); exact (hE.get 2 rfl)⟩) ?_
                rintro e w67 ⟨rfl, hb⟩
                refine ⟨_, rfl, hb, ?_⟩
                clear hK a hS; intro a hK hS
                replace hE := hE.call hb
                clear hb
                refine hd_take (i := 57) (d := 131) (v' := .bool (decide (txs M15.op = txs (L.op ++ [v16])))) (vs := []) (obs := []) #[true, true, true, true, true, true, true, true, true, true, true, true, true, true, true, true, true, true, true, true, true, true, true, true, true, true, true, true, true, true, true, true, true, true, true, true, true, true, true, true, true, true, true, true, true, true, true, true, true, true, true, true, true, true, true, true, true, true, false] (by kernel_rfl) hK hS rfl (by kernel_rfl) (by kernel_rfl) (by kernel_rfl) (by kernel_rfl) (fun _ _ _ h => h) (fun _ => by kernel_rfl) (fun W hW => trivial) rfl rfl rfl ?_
                clear hK a; intro a hK
                refine hd_take (i := 58) (d := 8) (v' := .bool (decide (txs M15.op = txs (L.op ++ [v16])))) (vs := []) (obs := []) #[true, true, true, true, true, true, true, true, true, true, true, true, true, true, true, true, true, true, true, true, true, true, true, true, true, true, true, true, true, true, true, true, true, true, true, true, true, true, true, true, true, true, true, true, true, true, true, true, true, true, true, true, true, true, true, true, true, true, true] (by kernel_rfl) hK hS rfl (by kernel_rfl) (by kernel_rfl) (by kernel_rfl) (by kernel_rfl) (fun _ _ _ h => h) (fun _ => by kernel_rfl) (fun W hW => trivial) rfl rfl rfl ?_
                clear hK a; intro a hK
                refine hd_done (by kernel_rfl) ?_ _
                clear hE0 hS
                replace hK := hK.weak (K' := [(8, .bool (decide (txs M15.op = txs (L.op ++ [v16]))))]) ⟨rfl, trivial⟩
                refine xt_norm ?_
                refine wp_ret ?_
                have hd68 : (decide (txs M15.op = txs (L.op ++ [v16]))) = true := decide_eq_true (by rw [hopM]; simp [txs, LdV.d])
                replace hK := hK.sub (d := 8) (v' := .bool true) rfl (congrArg Value.bool hd68)
                refine vc_ret (v' := .bool true) (vs := []) (obs := []) hK (fun _ => by kernel_rfl) trivial rfl ?_
                exact ⟨rfl, hE.b⟩
              · refine hd_new (d := 128) (v := fun g => .slice (some ⟨g, 0, none⟩) 1 1) (cs := #[.int .i64 v16.t.id, .int .i64 v16.t.ts, .slice v16.ra v16.t.reads.length v16.rc, .slice v16.wa v16.t.writes.length v16.wc]) (t := 29) rfl hK hE hS rfl (fun _ _ => by kernel_rfl) rfl rfl ?_
                have hs_ := hS.size; clear hK hE hS a; intro a g69 w70 hS hg_ hK hE
                have hbg69 : w36.heap.size ≤ g69 := by omega
                clear hg_ hs_
                refine hd_all [52] (by kernel_rfl) (by simp) ⟨?_, trivial⟩
                replace hE := hE.own 1 4 0 rfl rfl (by simp only [maxLen]; omega) rfl
                obtain ⟨ti_, hti_, hz_, hm_, hby_⟩ := info_parts (show (Try.prog.info? 29).map (fun i => (i.zero, i.size, i.bytes)) = some (some (.agg #[.int .i64 0, .int .i64 0, .slice none 0 0, .slice none 0 0]), 4, 64) from by kernel_rfl)
                refine hd_ap (d := 126) (news := (L.op.flatMap TxV.cells)) (k2 := L.op.length) (xs2 := (L.op.flatMap TxV.cells)) 1 (Nat.zero_add _) (List.nil_append _) rfl hS hK hE rfl rfl (fun _ => rfl) (fun _ => rfl) Try.underlying23 hti_ hz_ hm_ hby_ rfl (by decide) rfl (fun g hg => by injection hg with hg; subst hg; exact hbg51) (by rw [flat_len TxV.cells 4 TxV.len]) (hE.get 12 rfl) (tx_one L.op) (by simp only [maxLen]; omega) (by omega) rfl rfl ?_
                clear hK hE a hS ti_ hti_ hz_ hm_ hby_; intro A71 c72 a w73 hl74 hm75 hS hr76 hK hev_
                have hE := hev_ _ rfl
                clear hev_
                refine hd_all [55] (by kernel_rfl) (by simp) ⟨?_, trivial⟩
                obtain ⟨ti_, hti_, hz_, hm_, hby_⟩ := info_parts (show (Try.prog.info? 29).map (fun i => (i.zero, i.size, i.bytes)) = some (some (.agg #[.int .i64 0, .int .i64 0, .slice none 0 0, .slice none 0 0]), 4, 64) from by kernel_rfl)
                refine hd_ap (d := 129) (news := [.int .i64 v16.t.id, .int .i64 v16.t.ts, .slice v16.ra v16.t.reads.length v16.rc, .slice v16.wa v16.t.writes.length v16.wc]) (k2 := (L.op ++ [v16]).length) (xs2 := ((L.op ++ [v16]).flatMap TxV.cells)) 1 (by simp) (by rw [List.flatMap_append]; first | done | rfl) rfl hS hK hE rfl rfl (fun _ => rfl) (fun _ => rfl) Try.underlying23 hti_ hz_ hm_ hby_ rfl (by decide) rfl hr76 (by rfl) (Rd.of_blk (hE.blk 0 rfl)) (List.all_eq_true.1 (by kernel_rfl : List.all [.int .i64 v16.t.id, .int .i64 v16.t.ts, .slice v16.ra v16.t.reads.length v16.rc, .slice v16.wa v16.t.writes.length v16.wc] Value.oneCell' = true)) (by simp only [maxLen]; omega) (by omega) rfl rfl ?_
                clear hK hE a hS ti_ hti_ hz_ hm_ hby_; intro A77 c78 a w79 hl80 hm81 hS hr82 hK hev_
                have hE := hev_ _ rfl
                clear hev_
                refine hd_all [56] (by kernel_rfl) (by simp) ⟨?_, trivial⟩
                refine hd_call (d := 130) (f := 21) (args := #[.slice M15.oa M15.op.length M15.oc, .slice A77 (L.op ++ [v16]).length c78]) rfl hK hS rfl (fun _ => by kernel_rfl) rfl rfl (rSameTxs_any M15.oa A77 M15.oc c78 M15.op (L.op ++ [v16]) _ hMl.1 hMl.2.2 (by simp; omega) (LdW.o (hE.get 3 rfl)) ⟨hE.rd 1 rfl, fun x hx => by rcases List.mem_append.1 hx with hx | hx; exact (LdW.o (hE.get 14 rfl)).each x hx; obtain rfl : x = v16 := (by simpa using hx); exact (hE.get 2 rfl)⟩) ?_
                rintro e w83 ⟨rfl, hb⟩
                refine ⟨_, rfl, hb, ?_⟩
                clear hK a hS; intro a hK hS
                replace hE := hE.call hb
                clear hb
                refine hd_take (i := 57) (d := 131) (v' := .bool (decide (txs M15.op = txs (L.op ++ [v16])))) (vs := []) (obs := []) #[true, true, true, true, true, true, true, true, true, true, true, true, true, true, true, true, true, true, true, true, true, true, true, true, true, true, true, true, true, true, true, true, true, true, true, true, true, true, true, true, true, true, true, true, true, true, true, true, true, true, true, true, true, true, true, true, true, true, false] (by kernel_rfl) hK hS rfl (by kernel_rfl) (by kernel_rfl) (by kernel_rfl) (by kernel_rfl) (fun _ _ _ h => h) (fun _ => by kernel_rfl) (fun W hW => trivial) rfl rfl rfl ?_
                clear hK a; intro a hK
                refine hd_take (i := 58) (d := 8) (v' := .bool (decide (txs M15.op = txs (L.op ++ [v16])))) (vs := []) (obs := []) #[true, true, true, true, true, true, true, true, true, true, true, true, true, true, true, true, true, true, true, true, true, true, true, true, true, true, true, true, true, true, true, true, true, true, true, true, true, true, true, true, true, true, true, true, true, true, true, true, true, true, true, true, true, true, true, true, true, true, true] (by kernel_rfl) hK hS rfl (by kernel_rfl) (by kernel_rfl) (by kernel_rfl) (by kernel_rfl) (fun _ _ _ h => h) (fun _ => by kernel_rfl) (fun W hW => trivial) rfl rfl rfl ?_
                clear hK a; intro a hK
                refine hd_done (by kernel_rfl) ?_ _
                clear hE0 hS
                replace hK := hK.weak (K' := [(8, .bool (decide (txs M15.op = txs (L.op ++ [v16]))))]) ⟨rfl, trivial⟩
                refine xt_norm ?_
                refine wp_ret ?_
                have hd84 : (decide (txs M15.op = txs (L.op ++ [v16]))) = true := decide_eq_true (by rw [hopM]; simp [txs, LdV.d])
                replace hK := hK.sub (d := 8) (v' := .bool true) rfl (congrArg Value.bool hd84)
                refine vc_ret (v' := .bool true) (vs := []) (obs := []) hK (fun _ => by kernel_rfl) trivial rfl ?_
                exact ⟨rfl, hE.b⟩
            · refine hd_new (d := 128) (v := fun g => .slice (some ⟨g, 0, none⟩) 1 1) (cs := #[.int .i64 v16.t.id, .int .i64 v16.t.ts, .slice v16.ra v16.t.reads.length v16.rc, .slice v16.wa v16.t.writes.length v16.wc]) (t := 29) rfl hK hE hS rfl (fun _ _ => by kernel_rfl) rfl rfl ?_
              have hs_ := hS.size; clear hK hE hS a; intro a g85 w86 hS hg_ hK hE
              have hbg85 : w36.heap.size ≤ g85 := by omega
              clear hg_ hs_
              refine hd_all [49] (by kernel_rfl) (by simp) ⟨?_, trivial⟩
              refine hd_new (d := 123) (v := fun g => .slice (some ⟨g, 0, none⟩) 0 0) (cs := #[]) (t := 29) rfl hK hE hS rfl (fun _ _ => by kernel_rfl) rfl rfl ?_
              have hs_ := hS.size; clear hK hE hS a; intro a g87 w88 hS hg_ hK hE
              have hbg87 : w36.heap.size ≤ g87 := by omega
              clear hg_ hs_
              refine hd_all [52] (by kernel_rfl) (by simp) ⟨?_, trivial⟩
              replace hE := hE.own 0 4 0 rfl rfl (by simp only [maxLen]; omega) rfl
              obtain ⟨ti_, hti_, hz_, hm_, hby_⟩ := info_parts (show (Try.prog.info? 29).map (fun i => (i.zero, i.size, i.bytes)) = some (some (.agg #[.int .i64 0, .int .i64 0, .slice none 0 0, .slice none 0 0]), 4, 64) from by kernel_rfl)
              refine hd_ap (d := 126) (news := (L.op.flatMap TxV.cells)) (k2 := L.op.length) (xs2 := (L.op.flatMap TxV.cells)) 0 (Nat.zero_add _) (List.nil_append _) rfl hS hK hE rfl rfl (fun _ => rfl) (fun _ => rfl) Try.underlying23 hti_ hz_ hm_ hby_ rfl (by decide) rfl (fun g hg => by injection hg with hg; subst hg; exact hbg87) (by rw [flat_len TxV.cells 4 TxV.len]) (hE.get 12 rfl) (tx_one L.op) (by simp only [maxLen]; omega) (by omega) rfl rfl ?_
              clear hK hE a hS ti_ hti_ hz_ hm_ hby_; intro A89 c90 a w91 hl92 hm93 hS hr94 hK hev_
              have hE := hev_ _ rfl
              clear hev_
              refine hd_all [55] (by kernel_rfl) (by simp) ⟨?_, trivial⟩
              obtain ⟨ti_, hti_, hz_, hm_, hby_⟩ := info_parts (show (Try.prog.info? 29).map (fun i => (i.zero, i.size, i.bytes)) = some (some (.agg #[.int .i64 0, .int .i64 0, .slice none 0 0, .slice none 0 0]), 4, 64) from by kernel_rfl)
              refine hd_ap (d := 129) (news := [.int .i64 v16.t.id, .int .i64 v16.t.ts, .slice v16.ra v16.t.reads.length v16.rc, .slice v16.wa v16.t.writes.length v16.wc]) (k2 := (L.op ++ [v16]).length) (xs2 := ((L.op ++ [v16]).flatMap TxV.cells)) 0 (by simp) (by rw [List.flatMap_append]; first | done | rfl) rfl hS hK hE rfl rfl (fun _ => rfl) (fun _ => rfl) Try.underlying23 hti_ hz_ hm_ hby_ rfl (by decide) rfl hr94 (by rfl) (Rd.of_blk (hE.blk 1 rfl)) (List.all_eq_true.1 (by kernel_rfl : List.all [.int .i64 v16.t.id, .int .i64 v16.t.ts, .slice v16.ra v16.t.reads.length v16.rc, .slice v16.wa v16.t.writes.length v16.wc] Value.oneCell' = true)) (by simp only [maxLen]; omega) (by omega) rfl rfl ?_
              clear hK hE a hS ti_ hti_ hz_ hm_ hby_; intro A95 c96 a w97 hl98 hm99 hS hr100 hK hev_
              have hE := hev_ _ rfl
              clear hev_
              refine hd_all [56] (by kernel_rfl) (by simp) ⟨?_, trivial⟩
              refine hd_call (d := 130) (f := 21) (args := #[.slice M15.oa M15.op.length M15.oc, .slice A95 (L.op ++ [v16]).length c96]) rfl hK hS rfl (fun _ => by kernel_rfl) rfl rfl (rSameTxs_any M15.oa A95 M15.oc c96 M15.op (L.op ++ [v16]) _ hMl.1 hMl.2.2 (by simp; omega) (LdW.o (hE.get 3 rfl)) ⟨hE.rd 0 rfl, fun x hx => by rcases List.mem_append.1 hx with hx | hx; exact (LdW.o (hE.get 14 rfl)).each x hx; obtain rfl : x = v16 := (by simpa using hx); exact (hE.get 2 rfl)⟩) ?_
              rintro e w101 ⟨rfl, hb⟩
              refine ⟨_, rfl, hb, ?_⟩
              clear hK a hS; intro a hK hS
              replace hE := hE.call hb
              clear hb
              refine hd_take (i := 57) (d := 131) (v' := .bool (decide (txs M15.op = txs (L.op ++ [v16])))) (vs := []) (obs := []) #[true, true, true, true, true, true, true, true, true, true, true, true, true, true, true, true, true, true, true, true, true, true, true, true, true, true, true, true, true, true, true, true, true, true, true, true, true, true, true, true, true, true, true, true, true, true, true, true, true, true, true, true, true, true, true, true, true, true, false] (by kernel_rfl) hK hS rfl (by kernel_rfl) (by kernel_rfl) (by kernel_rfl) (by kernel_rfl) (fun _ _ _ h => h) (fun _ => by kernel_rfl) (fun W hW => trivial) rfl rfl rfl ?_
              clear hK a; intro a hK
              refine hd_take (i := 58) (d := 8) (v' := .bool (decide (txs M15.op = txs (L.op ++ [v16])))) (vs := []) (obs := []) #[true, true, true, true, true, true, true, true, true, true, true, true, true, true, true, true, true, true, true, true, true, true, true, true, true, true, true, true, true, true, true, true, true, true, true, true, true, true, true, true, true, true, true, true, true, true, true, true, true, true, true, true, true, true, true, true, true, true, true] (by kernel_rfl) hK hS rfl (by kernel_rfl) (by kernel_rfl) (by kernel_rfl) (by kernel_rfl) (fun _ _ _ h => h) (fun _ => by kernel_rfl) (fun W hW => trivial) rfl rfl rfl ?_
              clear hK a; intro a hK
              refine hd_done (by kernel_rfl) ?_ _
              clear hE0 hS
              replace hK := hK.weak (K' := [(8, .bool (decide (txs M15.op = txs (L.op ++ [v16]))))]) ⟨rfl, trivial⟩
              refine xt_norm ?_
              refine wp_ret ?_
              have hd102 : (decide (txs M15.op = txs (L.op ++ [v16]))) = true := decide_eq_true (by rw [hopM]; simp [txs, LdV.d])
              replace hK := hK.sub (d := 8) (v' := .bool true) rfl (congrArg Value.bool hd102)
              refine vc_ret (v' := .bool true) (vs := []) (obs := []) hK (fun _ => by kernel_rfl) trivial rfl ?_
              exact ⟨rfl, hE.b⟩
          · have hc45p := ne_of_beq_false hc45
            replace hK := hK.sub (d := 96) (v' := .bool false) rfl (congrArg Value.bool hc45)
            refine hd_take (i := 23) (d := 97) (v' := .pointer (some ⟨g20, 1, none⟩)) (vs := []) (obs := []) #[true, true, true, true, true, true, true, true, true, true, true, true, true, true, true, true, true, true, true, true, true, true, true, true, false, false, false, false, false, false, false, false, false, false, false, false, false, false, false, false, false, false, false, false, false, false, false, false, false, false, false, false, false, false, false, false, false, false, false] (by kernel_rfl) hK hS rfl (by kernel_rfl) (by kernel_rfl) (by kernel_rfl) (by kernel_rfl) (fun _ _ _ h => h) (fun _ => by kernel_rfl) (fun W hW => trivial) rfl rfl rfl ?_
            clear hK a; intro a hK
            refine hd_take (i := 24) (d := 98) (v' := .int .i64 v16.t.ts) (vs := [.int .i64 v16.t.ts]) (obs := [(⟨g20, 1, none⟩, .int .i64 v16.t.ts)]) #[true, true, true, true, true, true, true, true, true, true, true, true, true, true, true, true, true, true, true, true, true, true, true, true, true, false, false, false, false, false, false, false, false, false, false, false, false, false, false, false, false, false, false, false, false, false, false, false, false, false, false, false, false, false, false, false, false, false, false] (by kernel_rfl) hK hS rfl (by kernel_rfl) (by kernel_rfl) (by kernel_rfl) (by kernel_rfl) (fun _ _ _ h => h) (fun _ => by kernel_rfl) (fun W hW => ⟨(((hE0.call hW).blk 3 rfl).cell 1).trans rfl, trivial⟩) rfl rfl rfl ?_
            clear hK a; intro a hK
            refine hd_take (i := 25) (d := 99) (v' := .pointer (some ⟨g5, 1, none⟩)) (vs := []) (obs := []) #[true, true, true, true, true, true, true, true, true, true, true, true, true, true, true, true, true, true, true, true, true, true, true, true, true, true, false, false, false, false, false, false, false, false, false, false, false, false, false, false, false, false, false, false, false, false, false, false, false, false, false, false, false, false, false, false, false, false, false] (by kernel_rfl) hK hS rfl (by kernel_rfl) (by kernel_rfl) (by kernel_rfl) (by kernel_rfl) (fun _ _ _ h => h) (fun _ => by kernel_rfl) (fun W hW => trivial) rfl rfl rfl ?_
            clear hK a; intro a hK
            refine hd_take (i := 26) (d := 100) (v' := .int .i64 hi) (vs := [.int .i64 hi]) (obs := [(⟨g5, 1, none⟩, .int .i64 hi)]) #[true, true, true, true, true, true, true, true, true, true, true, true, true, true, true, true, true, true, true, true, true, true, true, true, true, true, true, false, false, false, false, false, false, false, false, false, false, false, false, false, false, false, false, false, false, false, false, false, false, false, false, false, false, false, false, false, false, false, false] (by kernel_rfl) hK hS rfl (by kernel_rfl) (by kernel_rfl) (by kernel_rfl) (by kernel_rfl) (fun _ _ _ h => h) (fun _ => by kernel_rfl) (fun W hW => ⟨(((hE0.call hW).blk 7 rfl).cell 1).trans rfl, trivial⟩) rfl rfl rfl ?_
            clear hK a; intro a hK
            refine hd_take (i := 27) (d := 101) (v' := .bool (v16.t.ts == hi)) (vs := []) (obs := []) #[true, true, true, true, true, true, true, true, true, true, true, true, true, true, true, true, true, true, true, true, true, true, true, true, true, true, true, true, false, false, false, false, false, false, false, false, false, false, false, false, false, false, false, false, false, false, false, false, false, false, false, false, false, false, false, false, false, false, false] (by kernel_rfl) hK hS rfl (by kernel_rfl) (by kernel_rfl) (by kernel_rfl) (by kernel_rfl) (fun _ _ _ h => h) (fun _ => by kernel_rfl) (fun W hW => trivial) rfl rfl rfl ?_
            clear hK a; intro a hK
            refine hd_take (i := 28) (d := 102) (v' := .bool (v16.t.ts == hi)) (vs := []) (obs := []) #[true, true, true, true, true, true, true, true, true, true, true, true, true, true, true, true, true, true, true, true, true, true, true, true, true, true, true, true, true, false, false, false, false, false, false, false, false, false, false, false, false, false, false, false, false, false, false, false, false, false, false, false, false, false, false, false, false, false, false] (by kernel_rfl) hK hS rfl (by kernel_rfl) (by kernel_rfl) (by kernel_rfl) (by kernel_rfl) (fun _ _ _ h => h) (fun _ => by kernel_rfl) (fun W hW => trivial) rfl rfl rfl ?_
            clear hK a; intro a hK
            refine hd_take (i := 29) (d := 103) (v' := .bool (v16.t.ts == hi)) (vs := []) (obs := []) #[true, true, true, true, true, true, true, true, true, true, true, true, true, true, true, true, true, true, true, true, true, true, true, true, true, true, true, true, true, true, false, false, false, false, false, false, false, false, false, false, false, false, false, false, false, false, false, false, false, false, false, false, false, false, false, false, false, false, false] (by kernel_rfl) hK hS rfl (by kernel_rfl) (by kernel_rfl) (by kernel_rfl) (by kernel_rfl) (fun _ _ _ h => h) (fun _ => by kernel_rfl) (fun W hW => trivial) rfl rfl rfl ?_
            clear hK a; intro a hK
            refine hd_take (i := 30) (d := 104) (v' := .bool (v16.t.ts == hi)) (vs := []) (obs := []) #[true, true, true, true, true, true, true, true, true, true, true, true, true, true, true, true, true, true, true, true, true, true, true, true, true, true, true, true, true, true, true, false, false, false, false, false, false, false, false, false, false, false, false, false, false, false, false, false, false, false, false, false, false, false, false, false, false, false, false] (by kernel_rfl) hK hS rfl (by kernel_rfl) (by kernel_rfl) (by kernel_rfl) (by kernel_rfl) (fun _ _ _ h => h) (fun _ => by kernel_rfl) (fun W hW => trivial) rfl rfl rfl ?_
            clear hK a; intro a hK
            have hd103 : ((v16.t.ts == hi)) = true := by rcases hla.2.2.1 with e | e; exact absurd e hc45p; rw [e]; exact beq_self_eq_true _
            replace hK := hK.sub (d := 104) (v' := .bool true) rfl (congrArg Value.bool hd103)
            refine hd_take (i := 31) (d := 105) (v' := .agg #[.int .i64 v.t.id, .int .i64 v16.t.ts, .slice v.ra v.t.reads.length v.rc, .slice v.wa v.t.writes.length v.wc]) (vs := [.int .i64 v.t.id, .int .i64 v16.t.ts, .slice v.ra v.t.reads.length v.rc, .slice v.wa v.t.writes.length v.wc]) (obs := [(⟨g3, 0, none⟩, .int .i64 v.t.id), (⟨g3, 1, none⟩, .int .i64 v16.t.ts), (⟨g3, 2, none⟩, .slice v.ra v.t.reads.length v.rc), (⟨g3, 3, none⟩, .slice v.wa v.t.writes.length v.wc)]) #[true, true, true, true, true, true, true, true, true, true, true, true, true, true, true, true, true, true, true, true, true, true, true, true, true, true, true, true, true, true, true, true, false, false, false, false, false, false, false, false, false, false, false, false, false, false, false, false, false, false, false, false, false, false, false, false, false, false, false] (by kernel_rfl) hK hS rfl (by kernel_rfl) (by kernel_rfl) (by kernel_rfl) (by kernel_rfl) (fun _ _ _ h => h) (fun _ => by kernel_rfl) (fun W hW => ⟨(((hE0.call hW).blk 8 rfl).cell 0).trans rfl, (((hE0.call hW).blk 8 rfl).cell 1).trans rfl, (((hE0.call hW).blk 8 rfl).cell 2).trans rfl, (((hE0.call hW).blk 8 rfl).cell 3).trans rfl, trivial⟩) rfl rfl rfl ?_
            clear hK a; intro a hK
            refine hd_take (i := 32) (d := 106) (v' := .agg #[.int .i64 v16.t.id, .int .i64 v16.t.ts, .slice v16.ra v16.t.reads.length v16.rc, .slice v16.wa v16.t.writes.length v16.wc]) (vs := [.int .i64 v16.t.id, .int .i64 v16.t.ts, .slice v16.ra v16.t.reads.length v16.rc, .slice v16.wa v16.t.writes.length v16.wc]) (obs := [(⟨g20, 0, none⟩, .int .i64 v16.t.id), (⟨g20, 1, none⟩, .int .i64 v16.t.ts), (⟨g20, 2, none⟩, .slice v16.ra v16.t.reads.length v16.rc), (⟨g20, 3, none⟩, .slice v16.wa v16.t.writes.length v16.wc)]) #[true, true, true, true, true, true, true, true, true, true, true, true, true, true, true, true, true, true, true, true, true, true, true, true, true, true, true, true, true, true, true, true, true, false, false, false, false, false, false, false, false, false, false, false, false, false, false, false, false, false, false, false, false, false, false, false, false, false, false] (by kernel_rfl) hK hS rfl (by kernel_rfl) (by kernel_rfl) (by kernel_rfl) (by kernel_rfl) (fun _ _ _ h => h) (fun _ => by kernel_rfl) (fun W hW => ⟨(((hE0.call hW).blk 3 rfl).cell 0).trans rfl, (((hE0.call hW).blk 3 rfl).cell 1).trans rfl, (((hE0.call hW).blk 3 rfl).cell 2).trans rfl, (((hE0.call hW).blk 3 rfl).cell 3).trans rfl, trivial⟩) rfl rfl rfl ?_
            clear hK a; intro a hK
            refine hd_all [33] (by kernel_rfl) (by simp) ⟨?_, trivial⟩
            refine hd_call (d := 107) (f := 18) (args := #[.agg #[.int .i64 v.t.id, .int .i64 v16.t.ts, .slice v.ra v.t.reads.length v.rc, .slice v.wa v.t.writes.length v.wc], .agg #[.int .i64 v16.t.id, .int .i64 v16.t.ts, .slice v16.ra v16.t.reads.length v16.rc, .slice v16.wa v16.t.writes.length v16.wc]]) rfl hK hS rfl (fun _ => by kernel_rfl) rfl rfl (rSameTx_any (⟨v.t.at v16.t.ts, v.ra, v.rc, v.wa, v.wc⟩ : TxV) v16 _ hsm (TxW.at_ts (hE.get 11 rfl) _) (hE.get 0 rfl)) ?_
            rintro e w104 ⟨rfl, hb⟩
            refine ⟨_, rfl, hb, ?_⟩
            clear hK a hS; intro a hK hS
            replace hE := hE.call hb
            clear hb
            refine hd_take (i := 34) (d := 108) (v' := .bool (decide (TxV.t (⟨v.t.at v16.t.ts, v.ra, v.rc, v.wa, v.wc⟩ : TxV) = v16.t))) (vs := []) (obs := []) #[true, true, true, true, true, true, true, true, true, true, true, true, true, true, true, true, true, true, true, true, true, true, true, true, true, true, true, true, true, true, true, true, true, true, true, false, false, false, false, false, false, false, false, false, false, false, false, false, false, false, false, false, false, false, false, false, false, false, false] (by kernel_rfl) hK hS rfl (by kernel_rfl) (by kernel_rfl) (by kernel_rfl) (by kernel_rfl) (fun _ _ _ h => h) (fun _ => by kernel_rfl) (fun W hW => trivial) rfl rfl rfl ?_
            clear hK a; intro a hK
            refine hd_take (i := 35) (d := 109) (v' := .bool (decide (TxV.t (⟨v.t.at v16.t.ts, v.ra, v.rc, v.wa, v.wc⟩ : TxV) = v16.t))) (vs := []) (obs := []) #[true, true, true, true, true, true, true, true, true, true, true, true, true, true, true, true, true, true, true, true, true, true, true, true, true, true, true, true, true, true, true, true, true, true, true, true, false, false, false, false, false, false, false, false, false, false, false, false, false, false, false, false, false, false, false, false, false, false, false] (by kernel_rfl) hK hS rfl (by kernel_rfl) (by kernel_rfl) (by kernel_rfl) (by kernel_rfl) (fun _ _ _ h => h) (fun _ => by kernel_rfl) (fun W hW => trivial) rfl rfl rfl ?_
            clear hK a; intro a hK
            have hd105 : (decide (TxV.t (⟨v.t.at v16.t.ts, v.ra, v.rc, v.wa, v.wc⟩ : TxV) = v16.t)) = true := decide_eq_true hla.2.2.2.1
            replace hK := hK.sub (d := 109) (v' := .bool true) rfl (congrArg Value.bool hd105)
            refine hd_take (i := 36) (d := 110) (v' := .agg #[.int .i64 M15.last, .slice M15.sa M15.st.length M15.sc, .slice M15.oa M15.op.length M15.oc]) (vs := [.int .i64 M15.last, .slice M15.sa M15.st.length M15.sc, .slice M15.oa M15.op.length M15.oc]) (obs := [(⟨g18, 0, none⟩, .int .i64 M15.last), (⟨g18, 1, none⟩, .slice M15.sa M15.st.length M15.sc), (⟨g18, 2, none⟩, .slice M15.oa M15.op.length M15.oc)]) #[true, true, true, true, true, true, true, true, true, true, true, true, true, true, true, true, true, true, true, true, true, true, true, true, true, true, true, true, true, true, true, true, true, true, true, true, true, false, false, false, false, false, false, false, false, false, false, false, false, false, false, false, false, false, false, false, false, false, false] (by kernel_rfl) hK hS rfl (by kernel_rfl) (by kernel_rfl) (by kernel_rfl) (by kernel_rfl) (fun _ _ _ h => h) (fun _ => by kernel_rfl) (fun W hW => ⟨(((hE0.call hW).blk 4 rfl).cell 0).trans rfl, (((hE0.call hW).blk 4 rfl).cell 1).trans rfl, (((hE0.call hW).blk 4 rfl).cell 2).trans rfl, trivial⟩) rfl rfl rfl ?_
            clear hK a; intro a hK
            refine hd_all [37] (by kernel_rfl) (by simp) ⟨?_, trivial⟩
            refine hd_call (d := 111) (f := 15) (args := #[.agg #[.int .i64 M15.last, .slice M15.sa M15.st.length M15.sc, .slice M15.oa M15.op.length M15.oc]]) rfl hK hS rfl (fun _ => by kernel_rfl) rfl rfl (lv_any M15 _ hMS (hE.get 1 rfl)) ?_
            rintro e w106 ⟨rfl, hb⟩
            refine ⟨_, rfl, hb, ?_⟩
            clear hK a hS; intro a hK hS
            replace hE := hE.call hb
            clear hb
            refine hd_take (i := 38) (d := 112) (v' := .bool M15.ok) (vs := []) (obs := []) #[true, true, true, true, true, true, true, true, true, true, true, true, true, true, true, true, true, true, true, true, true, true, true, true, true, true, true, true, true, true, true, true, true, true, true, true, true, true, true, false, false, false, false, false, false, false, false, false, false, false, false, false, false, false, false, false, false, false, false] (by kernel_rfl) hK hS rfl (by kernel_rfl) (by kernel_rfl) (by kernel_rfl) (by kernel_rfl) (fun _ _ _ h => h) (fun _ => by kernel_rfl) (fun W hW => trivial) rfl rfl rfl ?_
            clear hK a; intro a hK
            refine hd_take (i := 39) (d := 113) (v' := .bool M15.ok) (vs := []) (obs := []) #[true, true, true, true, true, true, true, true, true, true, true, true, true, true, true, true, true, true, true, true, true, true, true, true, true, true, true, true, true, true, true, true, true, true, true, true, true, true, true, true, false, false, false, false, false, false, false, false, false, false, false, false, false, false, false, false, false, false, false] (by kernel_rfl) hK hS rfl (by kernel_rfl) (by kernel_rfl) (by kernel_rfl) (by kernel_rfl) (fun _ _ _ h => h) (fun _ => by kernel_rfl) (fun W hW => trivial) rfl rfl rfl ?_
            clear hK a; intro a hK
            have hd107 : (M15.ok) = true := hokM
            replace hK := hK.sub (d := 113) (v' := .bool true) rfl (congrArg Value.bool hd107)
            refine hd_take (i := 40) (d := 114) (v' := .pointer (some ⟨g18, 0, none⟩)) (vs := []) (obs := []) #[true, true, true, true, true, true, true, true, true, true, true, true, true, true, true, true, true, true, true, true, true, true, true, true, true, true, true, true, true, true, true, true, true, true, true, true, true, true, true, true, true, false, false, false, false, false, false, false, false, false, false, false, false, false, false, false, false, false, false] (by kernel_rfl) hK hS rfl (by kernel_rfl) (by kernel_rfl) (by kernel_rfl) (by kernel_rfl) (fun _ _ _ h => h) (fun _ => by kernel_rfl) (fun W hW => trivial) rfl rfl rfl ?_
            clear hK a; intro a hK
            refine hd_take (i := 41) (d := 115) (v' := .int .i64 M15.last) (vs := [.int .i64 M15.last]) (obs := [(⟨g18, 0, none⟩, .int .i64 M15.last)]) #[true, true, true, true, true, true, true, true, true, true, true, true, true, true, true, true, true, true, true, true, true, true, true, true, true, true, true, true, true, true, true, true, true, true, true, true, true, true, true, true, true, true, false, false, false, false, false, false, false, false, false, false, false, false, false, false, false, false, false] (by kernel_rfl) hK hS rfl (by kernel_rfl) (by kernel_rfl) (by kernel_rfl) (by kernel_rfl) (fun _ _ _ h => h) (fun _ => by kernel_rfl) (fun W hW => ⟨(((hE0.call hW).blk 4 rfl).cell 0).trans rfl, trivial⟩) rfl rfl rfl ?_
            clear hK a; intro a hK
            refine hd_take (i := 42) (d := 116) (v' := .pointer (some ⟨g20, 1, none⟩)) (vs := []) (obs := []) #[true, true, true, true, true, true, true, true, true, true, true, true, true, true, true, true, true, true, true, true, true, true, true, true, true, true, true, true, true, true, true, true, true, true, true, true, true, true, true, true, true, true, true, false, false, false, false, false, false, false, false, false, false, false, false, false, false, false, false] (by kernel_rfl) hK hS rfl (by kernel_rfl) (by kernel_rfl) (by kernel_rfl) (by kernel_rfl) (fun _ _ _ h => h) (fun _ => by kernel_rfl) (fun W hW => trivial) rfl rfl rfl ?_
            clear hK a; intro a hK
            refine hd_take (i := 43) (d := 117) (v' := .int .i64 v16.t.ts) (vs := [.int .i64 v16.t.ts]) (obs := [(⟨g20, 1, none⟩, .int .i64 v16.t.ts)]) #[true, true, true, true, true, true, true, true, true, true, true, true, true, true, true, true, true, true, true, true, true, true, true, true, true, true, true, true, true, true, true, true, true, true, true, true, true, true, true, true, true, true, true, true, false, false, false, false, false, false, false, false, false, false, false, false, false, false, false] (by kernel_rfl) hK hS rfl (by kernel_rfl) (by kernel_rfl) (by kernel_rfl) (by kernel_rfl) (fun _ _ _ h => h) (fun _ => by kernel_rfl) (fun W hW => ⟨(((hE0.call hW).blk 3 rfl).cell 1).trans rfl, trivial⟩) rfl rfl rfl ?_
            clear hK a; intro a hK
            refine hd_take (i := 44) (d := 118) (v' := .bool (M15.last == v16.t.ts)) (vs := []) (obs := []) #[true, true, true, true, true, true, true, true, true, true, true, true, true, true, true, true, true, true, true, true, true, true, true, true, true, true, true, true, true, true, true, true, true, true, true, true, true, true, true, true, true, true, true, true, true, false, false, false, false, false, false, false, false, false, false, false, false, false, false] (by kernel_rfl) hK hS rfl (by kernel_rfl) (by kernel_rfl) (by kernel_rfl) (by kernel_rfl) (fun _ _ _ h => h) (fun _ => by kernel_rfl) (fun W hW => trivial) rfl rfl rfl ?_
            clear hK a; intro a hK
            refine hd_take (i := 45) (d := 119) (v' := .bool (M15.last == v16.t.ts)) (vs := []) (obs := []) #[true, true, true, true, true, true, true, true, true, true, true, true, true, true, true, true, true, true, true, true, true, true, true, true, true, true, true, true, true, true, true, true, true, true, true, true, true, true, true, true, true, true, true, true, true, true, false, false, false, false, false, false, false, false, false, false, false, false, false] (by kernel_rfl) hK hS rfl (by kernel_rfl) (by kernel_rfl) (by kernel_rfl) (by kernel_rfl) (fun _ _ _ h => h) (fun _ => by kernel_rfl) (fun W hW => trivial) rfl rfl rfl ?_
            clear hK a; intro a hK
            refine hd_take (i := 46) (d := 120) (v' := .bool (M15.last == v16.t.ts)) (vs := []) (obs := []) #[true, true, true, true, true, true, true, true, true, true, true, true, true, true, true, true, true, true, true, true, true, true, true, true, true, true, true, true, true, true, true, true, true, true, true, true, true, true, true, true, true, true, true, true, true, true, true, false, false, false, false, false, false, false, false, false, false, false, false] (by kernel_rfl) hK hS rfl (by kernel_rfl) (by kernel_rfl) (by kernel_rfl) (by kernel_rfl) (fun _ _ _ h => h) (fun _ => by kernel_rfl) (fun W hW => trivial) rfl rfl rfl ?_
            clear hK a; intro a hK
            have hd108 : ((M15.last == v16.t.ts)) = true := by rw [hlst]; exact beq_self_eq_true _
            replace hK := hK.sub (d := 120) (v' := .bool true) rfl (congrArg Value.bool hd108)
            refine hd_take (i := 47) (d := 121) (v' := .pointer (some ⟨g18, 2, none⟩)) (vs := []) (obs := []) #[true, true, true, true, true, true, true, true, true, true, true, true, true, true, true, true, true, true, true, true, true, true, true, true, true, true, true, true, true, true, true, true, true, true, true, true, true, true, true, true, true, true, true, true, true, true, true, true, false, false, false, false, false, false, false, false, false, false, false] (by kernel_rfl) hK hS rfl (by kernel_rfl) (by kernel_rfl) (by kernel_rfl) (by kernel_rfl) (fun _ _ _ h => h) (fun _ => by kernel_rfl) (fun W hW => trivial) rfl rfl rfl ?_
            clear hK a; intro a hK
            refine hd_take (i := 48) (d := 122) (v' := .slice M15.oa M15.op.length M15.oc) (vs := [.slice M15.oa M15.op.length M15.oc]) (obs := [(⟨g18, 2, none⟩, .slice M15.oa M15.op.length M15.oc)]) #[true, true, true, true, true, true, true, true, true, true, true, true, true, true, true, true, true, true, true, true, true, true, true, true, true, true, true, true, true, true, true, true, true, true, true, true, true, true, true, true, true, true, true, true, true, true, true, true, true, false, false, false, false, false, false, false, false, false, false] (by kernel_rfl) hK hS rfl (by kernel_rfl) (by kernel_rfl) (by kernel_rfl) (by kernel_rfl) (fun _ _ _ h => h) (fun _ => by kernel_rfl) (fun W hW => ⟨(((hE0.call hW).blk 4 rfl).cell 2).trans rfl, trivial⟩) rfl rfl rfl ?_
            clear hK a; intro a hK
            refine hd_take (i := 50) (d := 124) (v' := .pointer (some ⟨g1, 2, none⟩)) (vs := []) (obs := []) #[true, true, true, true, true, true, true, true, true, true, true, true, true, true, true, true, true, true, true, true, true, true, true, true, true, true, true, true, true, true, true, true, true, true, true, true, true, true, true, true, true, true, true, true, true, true, true, true, true, false, true, false, false, false, false, false, false, false, false] (by kernel_rfl) hK hS rfl (by kernel_rfl) (by kernel_rfl) (by kernel_rfl) (by kernel_rfl) (fun _ _ _ h => h) (fun _ => by kernel_rfl) (fun W hW => trivial) rfl rfl rfl ?_
            clear hK a; intro a hK
            refine hd_take (i := 51) (d := 125) (v' := .slice L.oa L.op.length L.oc) (vs := [.slice L.oa L.op.length L.oc]) (obs := [(⟨g1, 2, none⟩, .slice L.oa L.op.length L.oc)]) #[true, true, true, true, true, true, true, true, true, true, true, true, true, true, true, true, true, true, true, true, true, true, true, true, true, true, true, true, true, true, true, true, true, true, true, true, true, true, true, true, true, true, true, true, true, true, true, true, true, false, true, true, false, false, false, false, false, false, false] (by kernel_rfl) hK hS rfl (by kernel_rfl) (by kernel_rfl) (by kernel_rfl) (by kernel_rfl) (fun _ _ _ h => h) (fun _ => by kernel_rfl) (fun W hW => ⟨(((hE0.call hW).blk 9 rfl).cell 2).trans rfl, trivial⟩) rfl rfl rfl ?_
            clear hK a; intro a hK
            refine hd_take (i := 53) (d := 127) (v' := .agg #[.int .i64 v16.t.id, .int .i64 v16.t.ts, .slice v16.ra v16.t.reads.length v16.rc, .slice v16.wa v16.t.writes.length v16.wc]) (vs := [.int .i64 v16.t.id, .int .i64 v16.t.ts, .slice v16.ra v16.t.reads.length v16.rc, .slice v16.wa v16.t.writes.length v16.wc]) (obs := [(⟨g20, 0, none⟩, .int .i64 v16.t.id), (⟨g20, 1, none⟩, .int .i64 v16.t.ts), (⟨g20, 2, none⟩, .slice v16.ra v16.t.reads.length v16.rc), (⟨g20, 3, none⟩, .slice v16.wa v16.t.writes.length v16.wc)]) #[true, true, true, true, true, true, true, true, true, true, true, true, true, true, true, true, true, true, true, true, true, true, true, true, true, true, true, true, true, true, true, true, true, true, true, true, true, true, true, true, true, true, true, true, true, true, true, true, true, false, true, true, false, true, false, false, false, false, false] (by kernel_rfl) hK hS rfl (by kernel_rfl) (by kernel_rfl) (by kernel_rfl) (by kernel_rfl) (fun _ _ _ h => h) (fun _ => by kernel_rfl) (fun W hW => ⟨(((hE0.call hW).blk 3 rfl).cell 0).trans rfl, (((hE0.call hW).blk 3 rfl).cell 1).trans rfl, (((hE0.call hW).blk 3 rfl).cell 2).trans rfl, (((hE0.call hW).blk 3 rfl).cell 3).trans rfl, trivial⟩) rfl rfl rfl ?_
            clear hK a; intro a hK
            refine hd_all [49, 54] (by kernel_rfl) (by simp) ⟨?_, ?_, trivial⟩
            · refine hd_new (d := 123) (v := fun g => .slice (some ⟨g, 0, none⟩) 0 0) (cs := #[]) (t := 29) rfl hK hE hS rfl (fun _ _ => by kernel_rfl) rfl rfl ?_
              have hs_ := hS.size; clear hK hE hS a; intro a g109 w110 hS hg_ hK hE
              have hbg109 : w36.heap.size ≤ g109 := by omega
              clear hg_ hs_
              refine hd_all [52, 54] (by kernel_rfl) (by simp) ⟨?_, ?_, trivial⟩
              · replace hE := hE.own 0 4 0 rfl rfl (by simp only [maxLen]; omega) rfl
                obtain ⟨ti_, hti_, hz_, hm_, hby_⟩ := info_parts (show (Try.prog.info? 29).map (fun i => (i.zero, i.size, i.bytes)) = some (some (.agg #[.int .i64 0, .int .i64 0, .slice none 0 0, .slice none 0 0]), 4, 64) from by kernel_rfl)
                refine hd_ap (d := 126) (news := (L.op.flatMap TxV.cells)) (k2 := L.op.length) (xs2 := (L.op.flatMap TxV.cells)) 0 (Nat.zero_add _) (List.nil_append _) rfl hS hK hE rfl rfl (fun _ => rfl) (fun _ => rfl) Try.underlying23 hti_ hz_ hm_ hby_ rfl (by decide) rfl (fun g hg => by injection hg with hg; subst hg; exact hbg109) (by rw [flat_len TxV.cells 4 TxV.len]) (hE.get 11 rfl) (tx_one L.op) (by simp only [maxLen]; omega) (by omega) rfl rfl ?_
                clear hK hE a hS ti_ hti_ hz_ hm_ hby_; intro A111 c112 a w113 hl114 hm115 hS hr116 hK hev_
                have hE := hev_ _ rfl
                clear hev_
                refine hd_all [54] (by kernel_rfl) (by simp) ⟨?_, trivial⟩
                refine hd_new (d := 128) (v := fun g => .slice (some ⟨g, 0, none⟩) 1 1) (cs := #[.int .i64 v16.t.id, .int .i64 v16.t.ts, .slice v16.ra v16.t.reads.length v16.rc, .slice v16.wa v16.t.writes.length v16.wc]) (t := 29) rfl hK hE hS rfl (fun _ _ => by kernel_rfl) rfl rfl ?_
                have hs_ := hS.size; clear hK hE hS a; intro a g117 w118 hS hg_ hK hE
                have hbg117 : w36.heap.size ≤ g117 := by omega
                clear hg_ hs_
                refine hd_all [55] (by kernel_rfl) (by simp) ⟨?_, trivial⟩
                obtain ⟨ti_, hti_, hz_, hm_, hby_⟩ := info_parts (show (Try.prog.info? 29).map (fun i => (i.zero, i.size, i.bytes)) = some (some (.agg #[.int .i64 0, .int .i64 0, .slice none 0 0, .slice none 0 0]), 4, 64) from by kernel_rfl)
                refine hd_ap (d := 129) (news := [.int .i64 v16.t.id, .int .i64 v16.t.ts, .slice v16.ra v16.t.reads.length v16.rc, .slice v16.wa v16.t.writes.length v16.wc]) (k2 := (L.op ++ [v16]).length) (xs2 := ((L.op ++ [v16]).flatMap TxV.cells)) 1 (by simp) (by rw [List.flatMap_append]; first | done | rfl) rfl hS hK hE rfl rfl (fun _ => rfl) (fun _ => rfl) Try.underlying23 hti_ hz_ hm_ hby_ rfl (by decide) rfl hr116 (by rfl) (Rd.of_blk (hE.blk 0 rfl)) (List.all_eq_true.1 (by kernel_rfl : List.all [.int .i64 v16.t.id, .int .i64 v16.t.ts, .slice v16.ra v16.t.reads.length v16.rc, .slice v16.wa v16.t.writes.length v16.wc] Value.oneCell' = true)) (by simp only [maxLen]; omega) (by omega) rfl rfl ?_
                clear hK hE a hS ti_ hti_ hz_ hm_ hby_; intro A119 c120 a w121 hl122 hm123 hS hr124 hK hev_
                have hE := hev_ _ rfl
                clear hev_
                refine hd_all [56] (by kernel_rfl) (by simp) ⟨?_, trivial⟩
                refine hd_call (d := 130) (f := 21) (args := #[.slice M15.oa M15.op.length M15.oc, .slice A119 (L.op ++ [v16]).length c120]) rfl hK hS rfl (fun _ => by kernel_rfl) rfl rfl (rSameTxs_any M15.oa A119 M15.oc c120 M15.op (L.op ++ [v16]) _ hMl.1 hMl.2.2 (by simp; omega) (LdW.o (hE.get 3 rfl)) ⟨hE.rd 1 rfl, fun x hx => by rcases List.mem_append.1 hx with hx | hx; exact (LdW.o (hE.get 14 rfl)).each x hx; obtain rfl : x = v16 := (by simpa using hx); exact (hE.get 2 rfl)⟩) ?_
                rintro e w125 ⟨rfl, hb⟩
                refine ⟨_, rfl, hb, ?_⟩
                clear hK a hS; intro a hK hS
                replace hE := hE.call hb
                clear hb
                refine hd_take (i := 57) (d := 131) (v' := .bool (decide (txs M15.op = txs (L.op ++ [v16])))) (vs := []) (obs := []) #[true, true, true, true, true, true, true, true, true, true, true, true, true, true, true, true, true, true, true, true, true, true, true, true, true, true, true, true, true, true, true, true, true, true, true, true, true, true, true, true, true, true, true, true, true, true, true, true, true, true, true, true, true, true, true, true, true, true, false] (by kernel_rfl) hK hS rfl (by kernel_rfl) (by kernel_rfl) (by kernel_rfl) (by kernel_rfl) (fun _ _ _ h => h) (fun _ => by kernel_rfl) (fun W hW => trivial) rfl rfl rfl ?_
                clear hK a; intro a hK
                refine hd_take (i := 58) (d := 8) (v' := .bool (decide (txs M15.op = txs (L.op ++ [v16])))) (vs := []) (obs := []) #[true, true, true, true, true, true, true, true, true, true, true, true, true, true, true, true, true, true, true, true, true, true, true, true, true, true, true, true, true, true, true, true, true, true, true, true, true, true, true, true, true, true, true, true, true, true, true, true, true, true, true, true, true, true, true, true, true, true, true] (by kernel_rfl) hK hS rfl (by kernel_rfl) (by kernel_rfl) (by kernel_rfl) (by kernel_rfl) (fun _ _ _ h => h) (fun _ => by kernel_rfl) (fun W hW => trivial) rfl rfl rfl ?_
                clear hK a; intro a hK
                refine hd_done (by kernel_rfl) ?_ _
                clear hE0 hS
                replace hK := hK.weak (K' := [(8, .bool (decide (txs M15.op = txs (L.op ++ [v16]))))]) ⟨rfl, trivial⟩
                refine xt_norm ?_
                refine wp_ret ?_
                have hd126 : (decide (txs M15.op = txs (L.op ++ [v16]))) = true := decide_eq_true (by rw [hopM]; simp [txs, LdV.d])
                replace hK := hK.sub (d := 8) (v' := .bool true) rfl (congrArg Value.bool hd126)
                refine vc_ret (v' := .bool true) (vs := []) (obs := []) hK (fun _ => by kernel_rfl) trivial rfl ?_
                exact ⟨rfl, hE.b⟩
              · refine hd_new (d := 128) (v := fun g => .slice (some ⟨g, 0, none⟩) 1 1) (cs := #[.int .i64 v16.t.id, .int .i64 v16.t.ts, .slice v16.ra v16.t.reads.length v16.rc, .slice v16.wa v16.t.writes.length v16.wc]) (t := 29) rfl hK hE hS rfl (fun _ _ => by kernel_rfl) rfl rfl ?_
                have hs_ := hS.size; clear hK hE hS a; intro a g127 w128 hS hg_ hK hE
                have hbg127 : w36.heap.size ≤ g127 := by omega
                clear hg_ hs_
                refine hd_all [52] (by kernel_rfl) (by simp) ⟨?_, trivial⟩
                replace hE := hE.own 1 4 0 rfl rfl (by simp only [maxLen]; omega) rfl
                obtain ⟨ti_, hti_, hz_, hm_, hby_⟩ := info_parts (show (Try.prog.info? 29).map (fun i => (i.zero, i.size, i.bytes)) = some (some (.agg #[.int .i64 0, .int .i64 0, .slice none 0 0, .slice none 0 0]), 4, 64) from by kernel_rfl)
                refine hd_ap (d := 126) (news := (L.op.flatMap TxV.cells)) (k2 := L.op.length) (xs2 := (L.op.flatMap TxV.cells)) 1 (Nat.zero_add _) (List.nil_append _) rfl hS hK hE rfl rfl (fun _ => rfl) (fun _ => rfl) Try.underlying23 hti_ hz_ hm_ hby_ rfl (by decide) rfl (fun g hg => by injection hg with hg; subst hg; exact hbg109) (by rw [flat_len TxV.cells 4 TxV.len]) (hE.get 12 rfl) (tx_one L.op) (by simp only [maxLen]; omega) (by omega) rfl rfl ?_
                clear hK hE a hS ti_ hti_ hz_ hm_ hby_; intro A129 c130 a w131 hl132 hm133 hS hr134 hK hev_
                have hE := hev_ _ rfl
                clear hev_
                refine hd_all [55] (by kernel_rfl) (by simp) ⟨?_, trivial⟩
                obtain ⟨ti_, hti_, hz_, hm_, hby_⟩ := info_parts (show (Try.prog.info? 29).map (fun i => (i.zero, i.size, i.bytes)) = some (some (.agg #[.int .i64 0, .int .i64 0, .slice none 0 0, .slice none 0 0]), 4, 64) from by kernel_rfl)
                refine hd_ap (d := 129) (news := [.int .i64 v16.t.id, .int .i64 v16.t.ts, .slice v16.ra v16.t.reads.length v16.rc, .slice v16.wa v16.t.writes.length v16.wc]) (k2 := (L.op ++ [v16]).length) (xs2 := ((L.op ++ [v16]).flatMap TxV.cells)) 1 (by simp) (by rw [List.flatMap_append]; first | done | rfl) rfl hS hK hE rfl rfl (fun _ => rfl) (fun _ => rfl) Try.underlying23 hti_ hz_ hm_ hby_ rfl (by decide) rfl hr134 (by rfl) (Rd.of_blk (hE.blk 0 rfl)) (List.all_eq_true.1 (by kernel_rfl : List.all [.int .i64 v16.t.id, .int .i64 v16.t.ts, .slice v16.ra v16.t.reads.length v16.rc, .slice v16.wa v16.t.writes.length v16.wc] Value.oneCell' = true)) (by simp only [maxLen]; omega) (by omega) rfl rfl ?_
                clear hK hE a hS ti_ hti_ hz_ hm_ hby_; intro A135 c136 a w137 hl138 hm139 hS hr140 hK hev_
                have hE := hev_ _ rfl
                clear hev_
                refine hd_all [56] (by kernel_rfl) (by simp) ⟨?_, trivial⟩
                refine hd_call (d := 130) (f := 21) (args := #[.slice M15.oa M15.op.length M15.oc, .slice A135 (L.op ++ [v16]).length c136]) rfl hK hS rfl (fun _ => by kernel_rfl) rfl rfl (rSameTxs_any M15.oa A135 M15.oc c136 M15.op (L.op ++ [v16]) _ hMl.1 hMl.2.2 (by simp; omega) (LdW.o (hE.get 3 rfl)) ⟨hE.rd 1 rfl, fun x hx => by rcases List.mem_append.1 hx with hx | hx; exact (LdW.o (hE.get 14 rfl)).each x hx; obtain rfl : x = v16 := (by simpa using hx); exact (hE.get 2 rfl)⟩) ?_
                rintro e w141 ⟨rfl, hb⟩
                refine ⟨_, rfl, hb, ?_⟩
                clear hK a hS; intro a hK hS
                replace hE := hE.call hb
                clear hb
                refine hd_take (i := 57) (d := 131) (v' := .bool (decide (txs M15.op = txs (L.op ++ [v16])))) (vs := []) (obs := []) #[true, true, true, true, true, true, true, true, true, true, true, true, true, true, true, true, true, true, true, true, true, true, true, true, true, true, true, true, true, true, true, true, true, true, true, true, true, true, true, true, true, true, true, true, true, true, true, true, true, true, true, true, true, true, true, true, true, true, false] (by kernel_rfl) hK hS rfl (by kernel_rfl) (by kernel_rfl) (by kernel_rfl) (by kernel_rfl) (fun _ _ _ h => h) (fun _ => by kernel_rfl) (fun W hW => trivial) rfl rfl rfl ?_
                clear hK a; intro a hK
                refine hd_take (i := 58) (d := 8) (v' := .bool (decide (txs M15.op = txs (L.op ++ [v16])))) (vs := []) (obs := []) #[true, true, true, true, true, true, true, true, true, true, true, true, true, true, true, true, true, true, true, true, true, true, true, true, true, true, true, true, true, true, true, true, true, true, true, true, true, true, true, true, true, true, true, true, true, true, true, true, true, true, true, true, true, true, true, true, true, true, true] (by kernel_rfl) hK hS rfl (by kernel_rfl) (by kernel_rfl) (by kernel_rfl) (by kernel_rfl) (fun _ _ _ h => h) (fun _ => by kernel_rfl) (fun W hW => trivial) rfl rfl rfl ?_
                clear hK a; intro a hK
                refine hd_done (by kernel_rfl) ?_ _
                clear hE0 hS
                replace hK := hK.weak (K' := [(8, .bool (decide (txs M15.op = txs (L.op ++ [v16]))))]) ⟨rfl, trivial⟩
                refine xt_norm ?_
                refine wp_ret ?_
                have hd142 : (decide (txs M15.op = txs (L.op ++ [v16]))) = true := decide_eq_true (by rw [hopM]; simp [txs, LdV.d])
                replace hK := hK.sub (d := 8) (v' := .bool true) rfl (congrArg Value.bool hd142)
                refine vc_ret (v' := .bool true) (vs := []) (obs := []) hK (fun _ => by kernel_rfl) trivial rfl ?_
                exact ⟨rfl, hE.b⟩
            · refine hd_new (d := 128) (v := fun g => .slice (some ⟨g, 0, none⟩) 1 1) (cs := #[.int .i64 v16.t.id, .int .i64 v16.t.ts, .slice v16.ra v16.t.reads.length v16.rc, .slice v16.wa v16.t.writes.length v16.wc]) (t := 29) rfl hK hE hS rfl (fun _ _ => by kernel_rfl) rfl rfl ?_
              have hs_ := hS.size; clear hK hE hS a; intro a g143 w144 hS hg_ hK hE
              have hbg143 : w36.heap.size ≤ g143 := by omega
              clear hg_ hs_
              refine hd_all [49] (by kernel_rfl) (by simp) ⟨?_, trivial⟩
              refine hd_new (d := 123) (v := fun g => .slice (some ⟨g, 0, none⟩) 0 0) (cs := #[]) (t := 29) rfl hK hE hS rfl (fun _ _ => by kernel_rfl) rfl rfl ?_
              have hs_ := hS.size; clear hK hE hS a; intro a g145 w146 hS hg_ hK hE
              have hbg145 : w36.heap.size ≤ g145 := by omega
              clear hg_ hs_
              refine hd_all [52] (by kernel_rfl) (by simp) ⟨?_, trivial⟩
              replace hE := hE.own 0 4 0 rfl rfl (by simp only [maxLen]; omega) rfl
              obtain ⟨ti_, hti_, hz_, hm_, hby_⟩ := info_parts (show (Try.prog.info? 29).map (fun i => (i.zero, i.size, i.bytes)) = some (some (.agg #[.int .i64 0, .int .i64 0, .slice none 0 0, .slice none 0 0]), 4, 64) from by kernel_rfl)
              refine hd_ap (d := 126) (news := (L.op.flatMap TxV.cells)) (k2 := L.op.length) (xs2 := (L.op.flatMap TxV.cells)) 0 (Nat.zero_add _) (List.nil_append _) rfl hS hK hE rfl rfl (fun _ => rfl) (fun _ => rfl) Try.underlying23 hti_ hz_ hm_ hby_ rfl (by decide) rfl (fun g hg => by injection hg with hg; subst hg; exact hbg145) (by rw [flat_len TxV.cells 4 TxV.len]) (hE.get 12 rfl) (tx_one L.op) (by simp only [maxLen]; omega) (by omega) rfl rfl ?_
              clear hK hE a hS ti_ hti_ hz_ hm_ hby_; intro A147 c148 a w149 hl150 hm151 hS hr152 hK hev_
              have hE := hev_ _ rfl
              clear hev_
              refine hd_all [55] (by kernel_rfl) (by simp) ⟨?_, trivial⟩
              obtain ⟨ti_, hti_, hz_, hm_, hby_⟩ := info_parts (show (Try.prog.info? 29).map (fun i => (i.zero, i.size, i.bytes)) = some (some (.agg #[.int .i64 0, .int .i64 0, .slice none 0 0, .slice none 0 0]), 4, 64) from by kernel_rfl)
              refine hd_ap (d := 129) (news := [.int .i64 v16.t.id, .int .i64 v16.t.ts, .slice v16.ra v16.t.reads.length v16.rc, .slice v16.wa v16.t.writes.length v16.wc]) (k2 := (L.op ++ [v16]).length) (xs2 := ((L.op ++ [v16]).flatMap TxV.cells)) 0 (by simp) (by rw [List.flatMap_append]; first | done | rfl) rfl hS hK hE rfl rfl (fun _ => rfl) (fun _ => rfl) Try.underlying23 hti_ hz_ hm_ hby_ rfl (by decide) rfl hr152 (by rfl) (Rd.of_blk (hE.blk 1 rfl)) (List.all_eq_true.1 (by kernel_rfl : List.all [.int .i64 v16.t.id, .int .i64 v16.t.ts, .slice v16.ra v16.t.reads.length v16.rc, .slice v16.wa v16.t.writes.length v16.wc] Value.oneCell' = true)) (by simp only [maxLen]; omega) (by omega) rfl rfl ?_
              clear hK hE a hS ti_ hti_ hz_ hm_ hby_; intro A153 c154 a w155 hl156 hm157 hS hr158 hK hev_
              have hE := hev_ _ rfl
              clear hev_
              refine hd_all [56] (by kernel_rfl) (by simp) ⟨?_, trivial⟩
              refine hd_call (d := 130) (f := 21) (args := #[.slice M15.oa M15.op.length M15.oc, .slice A153 (L.op ++ [v16]).length c154]) rfl hK hS rfl (fun _ => by kernel_rfl) rfl rfl (rSameTxs_any M15.oa A153 M15.oc c154 M15.op (L.op ++ [v16]) _ hMl.1 hMl.2.2 (by simp; omega) (LdW.o (hE.get 3 rfl)) ⟨hE.rd 0 rfl, fun x hx => by rcases List.mem_append.1 hx with hx | hx; exact (LdW.o (hE.get 14 rfl)).each x hx; obtain rfl : x = v16 := (by simpa using hx); exact (hE.get 2 rfl)⟩) ?_
              rintro e w159 ⟨rfl, hb⟩
              refine ⟨_, rfl, hb, ?_⟩
              clear hK a hS; intro a hK hS
              replace hE := hE.call hb
              clear hb
              refine hd_take (i := 57) (d := 131) (v' := .bool (decide (txs M15.op = txs (L.op ++ [v16])))) (vs := []) (obs := []) #[true, true, true, true, true, true, true, true, true, true, true, true, true, true, true, true, true, true, true, true, true, true, true, true, true, true, true, true, true, true, true, true, true, true, true, true, true, true, true, true, true, true, true, true, true, true, true, true, true, true, true, true, true, true, true, true, true, true, false] (by kernel_rfl) hK hS rfl (by kernel_rfl) (by kernel_rfl) (by kernel_rfl) (by kernel_rfl) (fun _ _ _ h => h) (fun _ => by kernel_rfl) (fun W hW => trivial) rfl rfl rfl ?_
              clear hK a; intro a hK
              refine hd_take (i := 58) (d := 8) (v' := .bool (decide (txs M15.op = txs (L.op ++ [v16])))) (vs := []) (obs := []) #[true, true, true, true, true, true, true, true, true, true, true, true, true, true, true, true, true, true, true, true, true, true, true, true, true, true, true, true, true, true, true, true, true, true, true, true, true, true, true, true, true, true, true, true, true, true, true, true, true, true, true, true, true, true, true, true, true, true, true] (by kernel_rfl) hK hS rfl (by kernel_rfl) (by kernel_rfl) (by kernel_rfl) (by kernel_rfl) (fun _ _ _ h => h) (fun _ => by kernel_rfl) (fun W hW => trivial) rfl rfl rfl ?_
              clear hK a; intro a hK
              refine hd_done (by kernel_rfl) ?_ _
              clear hE0 hS
              replace hK := hK.weak (K' := [(8, .bool (decide (txs M15.op = txs (L.op ++ [v16]))))]) ⟨rfl, trivial⟩
              refine xt_norm ?_
              refine wp_ret ?_
              have hd160 : (decide (txs M15.op = txs (L.op ++ [v16]))) = true := decide_eq_true (by rw [hopM]; simp [txs, LdV.d])
              replace hK := hK.sub (d := 8) (v' := .bool true) rfl (congrArg Value.bool hd160)
              refine vc_ret (v' := .bool true) (vs := []) (obs := []) hK (fun _ => by kernel_rfl) trivial rfl ?_
              exact ⟨rfl, hE.b⟩
        · have hc33p := ne_of_beq_false hc33
          replace hK := hK.sub (d := 59) (v' := .bool true) rfl (congrArg (fun b => Value.bool !b) hc33)
          refine st_skip (d := 60) hK rfl rfl rfl ?_
          clear hK a; intro a hK
          refine st_skip (d := 61) hK rfl rfl rfl ?_
          clear hK a; intro a hK
          refine st_skip (d := 62) hK rfl rfl rfl ?_
          clear hK a; intro a hK
          refine st_skip (d := 63) hK rfl rfl rfl ?_
          clear hK a; intro a hK
          refine st_skip (d := 64) hK rfl rfl rfl ?_
          clear hK a; intro a hK
          refine st_skip (d := 65) hK rfl rfl rfl ?_
          clear hK a; intro a hK
          refine st_skip (d := 66) hK rfl rfl rfl ?_
          clear hK a; intro a hK
          refine st_skip (d := 67) hK rfl rfl rfl ?_
          clear hK a; intro a hK
          refine st_skip (d := 68) hK rfl rfl rfl ?_
          clear hK a; intro a hK
          refine st_op (d := 69) (v' := .bool true) (vs := []) (obs := []) hK rfl (fun _ => by kernel_rfl) trivial rfl rfl rfl ?_
          clear hK a; intro a hK
          refine st_op (d := 70) (v' := .bool true) (vs := []) (obs := []) hK rfl (fun _ => by kernel_rfl) trivial rfl rfl rfl ?_
          clear hK a; intro a hK
          refine st_op (d := 9) (v' := .bool true) (vs := []) (obs := []) hK rfl (fun _ => by kernel_rfl) trivial rfl rfl rfl ?_
          clear hK a; intro a hK
          refine wpList_nil ?_
          replace hK := hK.weak (K' := [(4, .pointer (some ⟨g1, 0, none⟩)), (5, .pointer (some ⟨g3, 0, none⟩)), (6, .pointer (some ⟨g5, 0, none⟩)), (8, .bool false), (9, .bool true), (10, .pointer (some ⟨g18, 0, none⟩)), (11, .pointer (some ⟨g20, 0, none⟩))]) ⟨rfl, rfl, rfl, rfl, rfl, rfl, rfl, trivial⟩
          refine xt_norm ?_
          refine wp_seq ?_
          refine wp_region_lit ?_
          refine st_op (d := 71) (v' := .pointer (some ⟨g20, 1, none⟩)) (vs := []) (obs := []) hK rfl (fun _ => by kernel_rfl) trivial rfl rfl rfl ?_
          clear hK a; intro a hK
          refine st_op (d := 72) (v' := .int .i64 v16.t.ts) (vs := [.int .i64 v16.t.ts]) (obs := [(⟨g20, 1, none⟩, .int .i64 v16.t.ts)]) hK rfl (fun _ => by kernel_rfl) ⟨((hE.blk 3 rfl).cell 1).trans rfl, trivial⟩ rfl rfl rfl ?_
          clear hK a; intro a hK
          refine st_op (d := 73) (v' := .pointer (some ⟨g3, 1, none⟩)) (vs := []) (obs := []) hK rfl (fun _ => by kernel_rfl) trivial rfl rfl rfl ?_
          clear hK a; intro a hK
          have hp162 := hE.get 5 rfl
          have hp163 := hE.get 6 rfl
          replace hE := hE.drop (.cons_cons _ (.cons _ (.cons _ (.cons_cons _ (.cons_cons _ (.cons _ (.cons _ (.cons_cons _ (.cons_cons _ (.cons_cons _ (.cons_cons _ (.cons_cons _ (.cons_cons _ (.cons_cons _ (.cons_cons _ .slnil)))))))))))))))
          refine st_store2 6 [(1, .int .i64 v16.t.ts)] hK hE rfl rfl (fun _ => by kernel_rfl) rfl rfl rfl ?_
          clear hE; intro w161 hs_ hk_ hE
          have hq164 := LdW.frame hfr15 hltg3_15 hp163 hs_ hk_
          replace hE := hE.dat (p := fun W => LdW W M15) (fun W hW => (fun h => h.then_ hW) hq164)
          clear hq164
          have hq165 := TxW.frame hfr15 hltg3_15 hp162 hs_ hk_
          replace hE := hE.dat (p := fun W => TxW W v16) (fun W hW => (fun h => h.then_ hW) hq165)
          clear hq165
          clear hp162 hp163
          clear hs_ hk_
          refine wpList_nil ?_
          refine xt_norm ?_
          refine wp_seq ?_
          have hE0 := hE
          refine hd_begin rfl ?_
          replace hE := hE.drew
          have hS : Below w161.heap.size w161 w161.drew := (Below.refl _ _).drew
          generalize w161.drew = w166 at hE hS ⊢
          refine hd_take (i := 0) (d := 74) (v' := .bool true) (vs := []) (obs := []) #[true, false, false, false, false, false, false, false, false, false, false, false, false, false, false, false, false, false, false, false, false, false, false, false, false, false, false, false, false, false, false, false, false, false, false, false, false, false, false, false, false, false, false, false, false, false, false, false, false, false, false, false, false, false, false, false, false, false, false] (by kernel_rfl) hK hS rfl (by kernel_rfl) (by kernel_rfl) (by kernel_rfl) (by kernel_rfl) (fun _ _ _ h => h) (fun _ => by kernel_rfl) (fun W hW => trivial) rfl rfl rfl ?_
          clear hK a; intro a hK
          refine hd_take (i := 1) (d := 75) (v' := .bool true) (vs := []) (obs := []) #[true, true, false, false, false, false, false, false, false, false, false, false, false, false, false, false, false, false, false, false, false, false, false, false, false, false, false, false, false, false, false, false, false, false, false, false, false, false, false, false, false, false, false, false, false, false, false, false, false, false, false, false, false, false, false, false, false, false, false] (by kernel_rfl) hK hS rfl (by kernel_rfl) (by kernel_rfl) (by kernel_rfl) (by kernel_rfl) (fun _ _ _ h => h) (fun _ => by kernel_rfl) (fun W hW => trivial) rfl rfl rfl ?_
          clear hK a; intro a hK
          refine hd_take (i := 2) (d := 76) (v' := .pointer (some ⟨g20, 1, none⟩)) (vs := []) (obs := []) #[true, true, true, false, false, false, false, false, false, false, false, false, false, false, false, false, false, false, false, false, false, false, false, false, false, false, false, false, false, false, false, false, false, false, false, false, false, false, false, false, false, false, false, false, false, false, false, false, false, false, false, false, false, false, false, false, false, false, false] (by kernel_rfl) hK hS rfl (by kernel_rfl) (by kernel_rfl) (by kernel_rfl) (by kernel_rfl) (fun _ _ _ h => h) (fun _ => by kernel_rfl) (fun W hW => trivial) rfl rfl rfl ?_
          clear hK a; intro a hK
          refine hd_take (i := 3) (d := 77) (v' := .int .i64 v16.t.ts) (vs := [.int .i64 v16.t.ts]) (obs := [(⟨g20, 1, none⟩, .int .i64 v16.t.ts)]) #[true, true, true, true, false, false, false, false, false, false, false, false, false, false, false, false, false, false, false, false, false, false, false, false, false, false, false, false, false, false, false, false, false, false, false, false, false, false, false, false, false, false, false, false, false, false, false, false, false, false, false, false, false, false, false, false, false, false, false] (by kernel_rfl) hK hS rfl (by kernel_rfl) (by kernel_rfl) (by kernel_rfl) (by kernel_rfl) (fun _ _ _ h => h) (fun _ => by kernel_rfl) (fun W hW => ⟨(((hE0.call hW).blk 3 rfl).cell 1).trans rfl, trivial⟩) rfl rfl rfl ?_
          clear hK a; intro a hK
          refine hd_take (i := 4) (d := 78) (v' := .pointer (some ⟨g1, 0, none⟩)) (vs := []) (obs := []) #[true, true, true, true, true, false, false, false, false, false, false, false, false, false, false, false, false, false, false, false, false, false, false, false, false, false, false, false, false, false, false, false, false, false, false, false, false, false, false, false, false, false, false, false, false, false, false, false, false, false, false, false, false, false, false, false, false, false, false] (by kernel_rfl) hK hS rfl (by kernel_rfl) (by kernel_rfl) (by kernel_rfl) (by kernel_rfl) (fun _ _ _ h => h) (fun _ => by kernel_rfl) (fun W hW => trivial) rfl rfl rfl ?_
          clear hK a; intro a hK
          refine hd_take (i := 5) (d := 79) (v' := .int .i64 L.last) (vs := [.int .i64 L.last]) (obs := [(⟨g1, 0, none⟩, .int .i64 L.last)]) #[true, true, true, true, true, true, false, false, false, false, false, false, false, false, false, false, false, false, false, false, false, false, false, false, false, false, false, false, false, false, false, false, false, false, false, false, false, false, false, false, false, false, false, false, false, false, false, false, false, false, false, false, false, false, false, false, false, false, false] (by kernel_rfl) hK hS rfl (by kernel_rfl) (by kernel_rfl) (by kernel_rfl) (by kernel_rfl) (fun _ _ _ h => h) (fun _ => by kernel_rfl) (fun W hW => ⟨(((hE0.call hW).blk 9 rfl).cell 0).trans rfl, trivial⟩) rfl rfl rfl ?_
          clear hK a; intro a hK
          refine hd_take (i := 6) (d := 80) (v' := .bool (decide (v16.t.ts > L.last))) (vs := []) (obs := []) #[true, true, true, true, true, true, true, false, false, false, false, false, false, false, false, false, false, false, false, false, false, false, false, false, false, false, false, false, false, false, false, false, false, false, false, false, false, false, false, false, false, false, false, false, false, false, false, false, false, false, false, false, false, false, false, false, false, false, false] (by kernel_rfl) hK hS rfl (by kernel_rfl) (by kernel_rfl) (by kernel_rfl) (by kernel_rfl) (fun _ _ _ h => h) (fun _ => by kernel_rfl) (fun W hW => trivial) rfl rfl rfl ?_
          clear hK a; intro a hK
          refine hd_take (i := 7) (d := 81) (v' := .bool (decide (v16.t.ts > L.last))) (vs := []) (obs := []) #[true, true, true, true, true, true, true, true, false, false, false, false, false, false, false, false, false, false, false, false, false, false, false, false, false, false, false, false, false, false, false, false, false, false, false, false, false, false, false, false, false, false, false, false, false, false, false, false, false, false, false, false, false, false, false, false, false, false, false] (by kernel_rfl) hK hS rfl (by kernel_rfl) (by kernel_rfl) (by kernel_rfl) (by kernel_rfl) (fun _ _ _ h => h) (fun _ => by kernel_rfl) (fun W hW => trivial) rfl rfl rfl ?_
          clear hK a; intro a hK
          refine hd_take (i := 8) (d := 82) (v' := .bool (decide (v16.t.ts > L.last))) (vs := []) (obs := []) #[true, true, true, true, true, true, true, true, true, false, false, false, false, false, false, false, false, false, false, false, false, false, false, false, false, false, false, false, false, false, false, false, false, false, false, false, false, false, false, false, false, false, false, false, false, false, false, false, false, false, false, false, false, false, false, false, false, false, false] (by kernel_rfl) hK hS rfl (by kernel_rfl) (by kernel_rfl) (by kernel_rfl) (by kernel_rfl) (fun _ _ _ h => h) (fun _ => by kernel_rfl) (fun W hW => trivial) rfl rfl rfl ?_
          clear hK a; intro a hK
          have hd167 : (decide (v16.t.ts > L.last)) = true := decide_eq_true hla.1
          replace hK := hK.sub (d := 82) (v' := .bool true) rfl (congrArg Value.bool hd167)
          refine hd_take (i := 9) (d := 83) (v' := .pointer (some ⟨g20, 1, none⟩)) (vs := []) (obs := []) #[true, true, true, true, true, true, true, true, true, true, false, false, false, false, false, false, false, false, false, false, false, false, false, false, false, false, false, false, false, false, false, false, false, false, false, false, false, false, false, false, false, false, false, false, false, false, false, false, false, false, false, false, false, false, false, false, false, false, false] (by kernel_rfl) hK hS rfl (by kernel_rfl) (by kernel_rfl) (by kernel_rfl) (by kernel_rfl) (fun _ _ _ h => h) (fun _ => by kernel_rfl) (fun W hW => trivial) rfl rfl rfl ?_
          clear hK a; intro a hK
          refine hd_take (i := 10) (d := 84) (v' := .int .i64 v16.t.ts) (vs := [.int .i64 v16.t.ts]) (obs := [(⟨g20, 1, none⟩, .int .i64 v16.t.ts)]) #[true, true, true, true, true, true, true, true, true, true, true, false, false, false, false, false, false, false, false, false, false, false, false, false, false, false, false, false, false, false, false, false, false, false, false, false, false, false, false, false, false, false, false, false, false, false, false, false, false, false, false, false, false, false, false, false, false, false, false] (by kernel_rfl) hK hS rfl (by kernel_rfl) (by kernel_rfl) (by kernel_rfl) (by kernel_rfl) (fun _ _ _ h => h) (fun _ => by kernel_rfl) (fun W hW => ⟨(((hE0.call hW).blk 3 rfl).cell 1).trans rfl, trivial⟩) rfl rfl rfl ?_
          clear hK a; intro a hK
          refine hd_take (i := 11) (d := 85) (v' := .pointer (some ⟨g5, 1, none⟩)) (vs := []) (obs := []) #[true, true, true, true, true, true, true, true, true, true, true, true, false, false, false, false, false, false, false, false, false, false, false, false, false, false, false, false, false, false, false, false, false, false, false, false, false, false, false, false, false, false, false, false, false, false, false, false, false, false, false, false, false, false, false, false, false, false, false] (by kernel_rfl) hK hS rfl (by kernel_rfl) (by kernel_rfl) (by kernel_rfl) (by kernel_rfl) (fun _ _ _ h => h) (fun _ => by kernel_rfl) (fun W hW => trivial) rfl rfl rfl ?_
          clear hK a; intro a hK
          refine hd_take (i := 12) (d := 86) (v' := .int .i64 hi) (vs := [.int .i64 hi]) (obs := [(⟨g5, 1, none⟩, .int .i64 hi)]) #[true, true, true, true, true, true, true, true, true, true, true, true, true, false, false, false, false, false, false, false, false, false, false, false, false, false, false, false, false, false, false, false, false, false, false, false, false, false, false, false, false, false, false, false, false, false, false, false, false, false, false, false, false, false, false, false, false, false, false] (by kernel_rfl) hK hS rfl (by kernel_rfl) (by kernel_rfl) (by kernel_rfl) (by kernel_rfl) (fun _ _ _ h => h) (fun _ => by kernel_rfl) (fun W hW => ⟨(((hE0.call hW).blk 7 rfl).cell 1).trans rfl, trivial⟩) rfl rfl rfl ?_
          clear hK a; intro a hK
          refine hd_take (i := 13) (d := 87) (v' := .bool (decide (v16.t.ts ≥ hi))) (vs := []) (obs := []) #[true, true, true, true, true, true, true, true, true, true, true, true, true, true, false, false, false, false, false, false, false, false, false, false, false, false, false, false, false, false, false, false, false, false, false, false, false, false, false, false, false, false, false, false, false, false, false, false, false, false, false, false, false, false, false, false, false, false, false] (by kernel_rfl) hK hS rfl (by kernel_rfl) (by kernel_rfl) (by kernel_rfl) (by kernel_rfl) (fun _ _ _ h => h) (fun _ => by kernel_rfl) (fun W hW => trivial) rfl rfl rfl ?_
          clear hK a; intro a hK
          refine hd_take (i := 14) (d := 88) (v' := .bool (decide (v16.t.ts ≥ hi))) (vs := []) (obs := []) #[true, true, true, true, true, true, true, true, true, true, true, true, true, true, true, false, false, false, false, false, false, false, false, false, false, false, false, false, false, false, false, false, false, false, false, false, false, false, false, false, false, false, false, false, false, false, false, false, false, false, false, false, false, false, false, false, false, false, false] (by kernel_rfl) hK hS rfl (by kernel_rfl) (by kernel_rfl) (by kernel_rfl) (by kernel_rfl) (fun _ _ _ h => h) (fun _ => by kernel_rfl) (fun W hW => trivial) rfl rfl rfl ?_
          clear hK a; intro a hK
          refine hd_take (i := 15) (d := 89) (v' := .bool (decide (v16.t.ts ≥ hi))) (vs := []) (obs := []) #[true, true, true, true, true, true, true, true, true, true, true, true, true, true, true, true, false, false, false, false, false, false, false, false, false, false, false, false, false, false, false, false, false, false, false, false, false, false, false, false, false, false, false, false, false, false, false, false, false, false, false, false, false, false, false, false, false, false, false] (by kernel_rfl) hK hS rfl (by kernel_rfl) (by kernel_rfl) (by kernel_rfl) (by kernel_rfl) (fun _ _ _ h => h) (fun _ => by kernel_rfl) (fun W hW => trivial) rfl rfl rfl ?_
          clear hK a; intro a hK
          have hd168 : (decide (v16.t.ts ≥ hi)) = true := decide_eq_true hla.2.1
          replace hK := hK.sub (d := 89) (v' := .bool true) rfl (congrArg Value.bool hd168)
          refine hd_take (i := 16) (d := 90) (v' := .pointer (some ⟨g20, 1, none⟩)) (vs := []) (obs := []) #[true, true, true, true, true, true, true, true, true, true, true, true, true, true, true, true, true, false, false, false, false, false, false, false, false, false, false, false, false, false, false, false, false, false, false, false, false, false, false, false, false, false, false, false, false, false, false, false, false, false, false, false, false, false, false, false, false, false, false] (by kernel_rfl) hK hS rfl (by kernel_rfl) (by kernel_rfl) (by kernel_rfl) (by kernel_rfl) (fun _ _ _ h => h) (fun _ => by kernel_rfl) (fun W hW => trivial) rfl rfl rfl ?_
          clear hK a; intro a hK
          refine hd_take (i := 17) (d := 91) (v' := .int .i64 v16.t.ts) (vs := [.int .i64 v16.t.ts]) (obs := [(⟨g20, 1, none⟩, .int .i64 v16.t.ts)]) #[true, true, true, true, true, true, true, true, true, true, true, true, true, true, true, true, true, true, false, false, false, false, false, false, false, false, false, false, false, false, false, false, false, false, false, false, false, false, false, false, false, false, false, false, false, false, false, false, false, false, false, false, false, false, false, false, false, false, false] (by kernel_rfl) hK hS rfl (by kernel_rfl) (by kernel_rfl) (by kernel_rfl) (by kernel_rfl) (fun _ _ _ h => h) (fun _ => by kernel_rfl) (fun W hW => ⟨(((hE0.call hW).blk 3 rfl).cell 1).trans rfl, trivial⟩) rfl rfl rfl ?_
          clear hK a; intro a hK
          refine hd_take (i := 18) (d := 92) (v' := .pointer (some ⟨g1, 0, none⟩)) (vs := []) (obs := []) #[true, true, true, true, true, true, true, true, true, true, true, true, true, true, true, true, true, true, true, false, false, false, false, false, false, false, false, false, false, false, false, false, false, false, false, false, false, false, false, false, false, false, false, false, false, false, false, false, false, false, false, false, false, false, false, false, false, false, false] (by kernel_rfl) hK hS rfl (by kernel_rfl) (by kernel_rfl) (by kernel_rfl) (by kernel_rfl) (fun _ _ _ h => h) (fun _ => by kernel_rfl) (fun W hW => trivial) rfl rfl rfl ?_
          clear hK a; intro a hK
          refine hd_take (i := 19) (d := 93) (v' := .int .i64 L.last) (vs := [.int .i64 L.last]) (obs := [(⟨g1, 0, none⟩, .int .i64 L.last)]) #[true, true, true, true, true, true, true, true, true, true, true, true, true, true, true, true, true, true, true, true, false, false, false, false, false, false, false, false, false, false, false, false, false, false, false, false, false, false, false, false, false, false, false, false, false, false, false, false, false, false, false, false, false, false, false, false, false, false, false] (by kernel_rfl) hK hS rfl (by kernel_rfl) (by kernel_rfl) (by kernel_rfl) (by kernel_rfl) (fun _ _ _ h => h) (fun _ => by kernel_rfl) (fun W hW => ⟨(((hE0.call hW).blk 9 rfl).cell 0).trans rfl, trivial⟩) rfl rfl rfl ?_
          clear hK a; intro a hK
          refine hd_take (i := 20) (d := 94) (v' := .int .i64 (IntKind.i64.wrap (L.last + 1))) (v := .int .i64 (L.last + 1)) (vs := []) (obs := []) #[true, true, true, true, true, true, true, true, true, true, true, true, true, true, true, true, true, true, true, true, true, false, false, false, false, false, false, false, false, false, false, false, false, false, false, false, false, false, false, false, false, false, false, false, false, false, false, false, false, false, false, false, false, false, false, false, false, false, false] (by kernel_rfl) hK hS rfl (by kernel_rfl) (by kernel_rfl) (by kernel_rfl) (by kernel_rfl) (fun _ _ _ h => h) (fun _ => by kernel_rfl) (fun W hW => trivial) (congrArg (Value.int .i64) (IntWalk.i64_in _ (by omega))) rfl rfl ?_
          clear hK a; intro a hK
          refine hd_take (i := 21) (d := 95) (v' := .bool (v16.t.ts == (L.last + 1))) (vs := []) (obs := []) #[true, true, true, true, true, true, true, true, true, true, true, true, true, true, true, true, true, true, true, true, true, true, false, false, false, false, false, false, false, false, false, false, false, false, false, false, false, false, false, false, false, false, false, false, false, false, false, false, false, false, false, false, false, false, false, false, false, false, false] (by kernel_rfl) hK hS rfl (by kernel_rfl) (by kernel_rfl) (by kernel_rfl) (by kernel_rfl) (fun _ _ _ h => h) (fun _ => by kernel_rfl) (fun W hW => trivial) rfl rfl rfl ?_
          clear hK a; intro a hK
          refine hd_take (i := 22) (d := 96) (v' := .bool (v16.t.ts == (L.last + 1))) (vs := []) (obs := []) #[true, true, true, true, true, true, true, true, true, true, true, true, true, true, true, true, true, true, true, true, true, true, true, false, false, false, false, false, false, false, false, false, false, false, false, false, false, false, false, false, false, false, false, false, false, false, false, false, false, false, false, false, false, false, false, false, false, false, false] (by kernel_rfl) hK hS rfl (by kernel_rfl) (by kernel_rfl) (by kernel_rfl) (by kernel_rfl) (fun _ _ _ h => h) (fun _ => by kernel_rfl) (fun W hW => trivial) rfl rfl rfl ?_
          clear hK a; intro a hK
          rcases Bool.eq_false_or_eq_true ((v16.t.ts == (L.last + 1))) with hc169 | hc169
          · have hc169p := eq_of_beq hc169
            replace hK := hK.sub (d := 96) (v' := .bool true) rfl (congrArg Value.bool hc169)
            refine hd_skip (i := 23) (d := 97) #[true, true, true, true, true, true, true, true, true, true, true, true, true, true, true, true, true, true, true, true, true, true, true, true, false, false, false, false, false, false, false, false, false, false, false, false, false, false, false, false, false, false, false, false, false, false, false, false, false, false, false, false, false, false, false, false, false, false, false] (by kernel_rfl) hK hS rfl (by kernel_rfl) (by kernel_rfl) (by kernel_rfl) (by kernel_rfl) (fun _ _ _ h => h) rfl rfl ?_
            clear hK a; intro a hK
            refine hd_skip (i := 24) (d := 98) #[true, true, true, true, true, true, true, true, true, true, true, true, true, true, true, true, true, true, true, true, true, true, true, true, true, false, false, false, false, false, false, false, false, false, false, false, false, false, false, false, false, false, false, false, false, false, false, false, false, false, false, false, false, false, false, false, false, false, false] (by kernel_rfl) hK hS rfl (by kernel_rfl) (by kernel_rfl) (by kernel_rfl) (by kernel_rfl) (fun _ _ _ h => h) rfl rfl ?_
            clear hK a; intro a hK
            refine hd_skip (i := 25) (d := 99) #[true, true, true, true, true, true, true, true, true, true, true, true, true, true, true, true, true, true, true, true, true, true, true, true, true, true, false, false, false, false, false, false, false, false, false, false, false, false, false, false, false, false, false, false, false, false, false, false, false, false, false, false, false, false, false, false, false, false, false] (by kernel_rfl) hK hS rfl (by kernel_rfl) (by kernel_rfl) (by kernel_rfl) (by kernel_rfl) (fun _ _ _ h => h) rfl rfl ?_
            clear hK a; intro a hK
            refine hd_skip (i := 26) (d := 100) #[true, true, true, true, true, true, true, true, true, true, true, true, true, true, true, true, true, true, true, true, true, true, true, true, true, true, true, false, false, false, false, false, false, false, false, false, false, false, false, false, false, false, false, false, false, false, false, false, false, false, false, false, false, false, false, false, false, false, false] (by kernel_rfl) hK hS rfl (by kernel_rfl) (by kernel_rfl) (by kernel_rfl) (by kernel_rfl) (fun _ _ _ h => h) rfl rfl ?_
            clear hK a; intro a hK
            refine hd_skip (i := 27) (d := 101) #[true, true, true, true, true, true, true, true, true, true, true, true, true, true, true, true, true, true, true, true, true, true, true, true, true, true, true, true, false, false, false, false, false, false, false, false, false, false, false, false, false, false, false, false, false, false, false, false, false, false, false, false, false, false, false, false, false, false, false] (by kernel_rfl) hK hS rfl (by kernel_rfl) (by kernel_rfl) (by kernel_rfl) (by kernel_rfl) (fun _ _ _ h => h) rfl rfl ?_
            clear hK a; intro a hK
            refine hd_take (i := 28) (d := 102) (v' := .bool true) (vs := []) (obs := []) #[true, true, true, true, true, true, true, true, true, true, true, true, true, true, true, true, true, true, true, true, true, true, true, true, true, true, true, true, true, false, false, false, false, false, false, false, false, false, false, false, false, false, false, false, false, false, false, false, false, false, false, false, false, false, false, false, false, false, false] (by kernel_rfl) hK hS rfl (by kernel_rfl) (by kernel_rfl) (by kernel_rfl) (by kernel_rfl) (fun _ _ _ h => h) (fun _ => by kernel_rfl) (fun W hW => trivial) rfl rfl rfl ?_
            clear hK a; intro a hK
            refine hd_take (i := 29) (d := 103) (v' := .bool true) (vs := []) (obs := []) #[true, true, true, true, true, true, true, true, true, true, true, true, true, true, true, true, true, true, true, true, true, true, true, true, true, true, true, true, true, true, false, false, false, false, false, false, false, false, false, false, false, false, false, false, false, false, false, false, false, false, false, false, false, false, false, false, false, false, false] (by kernel_rfl) hK hS rfl (by kernel_rfl) (by kernel_rfl) (by kernel_rfl) (by kernel_rfl) (fun _ _ _ h => h) (fun _ => by kernel_rfl) (fun W hW => trivial) rfl rfl rfl ?_
            clear hK a; intro a hK
            refine hd_take (i := 30) (d := 104) (v' := .bool true) (vs := []) (obs := []) #[true, true, true, true, true, true, true, true, true, true, true, true, true, true, true, true, true, true, true, true, true, true, true, true, true, true, true, true, true, true, true, false, false, false, false, false, false, false, false, false, false, false, false, false, false, false, false, false, false, false, false, false, false, false, false, false, false, false, false] (by kernel_rfl) hK hS rfl (by kernel_rfl) (by kernel_rfl) (by kernel_rfl) (by kernel_rfl) (fun _ _ _ h => h) (fun _ => by kernel_rfl) (fun W hW => trivial) rfl rfl rfl ?_
            clear hK a; intro a hK
            refine hd_take (i := 31) (d := 105) (v' := .agg #[.int .i64 v.t.id, .int .i64 v16.t.ts, .slice v.ra v.t.reads.length v.rc, .slice v.wa v.t.writes.length v.wc]) (vs := [.int .i64 v.t.id, .int .i64 v16.t.ts, .slice v.ra v.t.reads.length v.rc, .slice v.wa v.t.writes.length v.wc]) (obs := [(⟨g3, 0, none⟩, .int .i64 v.t.id), (⟨g3, 1, none⟩, .int .i64 v16.t.ts), (⟨g3, 2, none⟩, .slice v.ra v.t.reads.length v.rc), (⟨g3, 3, none⟩, .slice v.wa v.t.writes.length v.wc)]) #[true, true, true, true, true, true, true, true, true, true, true, true, true, true, true, true, true, true, true, true, true, true, true, true, true, true, true, true, true, true, true, true, false, false, false, false, false, false, false, false, false, false, false, false, false, false, false, false, false, false, false, false, false, false, false, false, false, false, false] (by kernel_rfl) hK hS rfl (by kernel_rfl) (by kernel_rfl) (by kernel_rfl) (by kernel_rfl) (fun _ _ _ h => h) (fun _ => by kernel_rfl) (fun W hW => ⟨(((hE0.call hW).blk 8 rfl).cell 0).trans rfl, (((hE0.call hW).blk 8 rfl).cell 1).trans rfl, (((hE0.call hW).blk 8 rfl).cell 2).trans rfl, (((hE0.call hW).blk 8 rfl).cell 3).trans rfl, trivial⟩) rfl rfl rfl ?_
            clear hK a; intro a hK
            refine hd_take (i := 32) (d := 106) (v' := .agg #[.int .i64 v16.t.id, .int .i64 v16.t.ts, .slice v16.ra v16.t.reads.length v16.rc, .slice v16.wa v16.t.writes.length v16.wc]) (vs := [.int .i64 v16.t.id, .int .i64 v16.t.ts, .slice v16.ra v16.t.reads.length v16.rc, .slice v16.wa v16.t.writes.length v16.wc]) (obs := [(⟨g20, 0, none⟩, .int .i64 v16.t.id), (⟨g20, 1, none⟩, .int .i64 v16.t.ts), (⟨g20, 2, none⟩, .slice v16.ra v16.t.reads.length v16.rc), (⟨g20, 3, none⟩, .slice v16.wa v16.t.writes.length v16.wc)]) #[true, true, true, true, true, true, true, true, true, true, true, true, true, true, true, true, true, true, true, true, true, true, true, true, true, true, true, true, true, true, true, true, true, false, false, false, false, false, false, false, false, false, false, false, false, false, false, false, false, false, false, false, false, false, false, false, false, false, false] (by kernel_rfl) hK hS rfl (by kernel_rfl) (by kernel_rfl) (by kernel_rfl) (by kernel_rfl) (fun _ _ _ h => h) (fun _ => by kernel_rfl) (fun W hW => ⟨(((hE0.call hW).blk 3 rfl).cell 0).trans rfl, (((hE0.call hW).blk 3 rfl).cell 1).trans rfl, (((hE0.call hW).blk 3 rfl).cell 2).trans rfl, (((hE0.call hW).blk 3 rfl).cell 3).trans rfl, trivial⟩) rfl rfl rfl ?_
            clear hK a; intro a hK
            refine hd_all [33] (by kernel_rfl) (by simp) ⟨?_, trivial⟩
            refine hd_call (d := 107) (f := 18) (args := #[.agg #[.int .i64 v.t.id, .int .i64 v16.t.ts, .slice v.ra v.t.reads.length v.rc, .slice v.wa v.t.writes.length v.wc], .agg #[.int .i64 v16.t.id, .int .i64 v16.t.ts, .slice v16.ra v16.t.reads.length v16.rc, .slice v16.wa v16.t.writes.length v16.wc]]) rfl hK hS rfl (fun _ => by kernel_rfl) rfl rfl (rSameTx_any (⟨v.t.at v16.t.ts, v.ra, v.rc, v.wa, v.wc⟩ : TxV) v16 _ hsm (TxW.at_ts (hE.get 11 rfl) _) (hE.get 0 rfl)) ?_
            rintro e w170 ⟨rfl, hb⟩
            refine ⟨_, rfl, hb, ?_⟩
            clear hK a hS; intro a hK hS
            replace hE := hE.call hb
            clear hb
            refine hd_take (i := 34) (d := 108) (v' := .bool (decide (TxV.t (⟨v.t.at v16.t.ts, v.ra, v.rc, v.wa, v.wc⟩ : TxV) = v16.t))) (vs := []) (obs := []) #[true, true, true, true, true, true, true, true, true, true, true, true, true, true, true, true, true, true, true, true, true, true, true, true, true, true, true, true, true, true, true, true, true, true, true, false, false, false, false, false, false, false, false, false, false, false, false, false, false, false, false, false, false, false, false, false, false, false, false] (by kernel_rfl) hK hS rfl (by kernel_rfl) (by kernel_rfl) (by kernel_rfl) (by kernel_rfl) (fun _ _ _ h => h) (fun _ => by kernel_rfl) (fun W hW => trivial) rfl rfl rfl ?_
            clear hK a; intro a hK
            refine hd_take (i := 35) (d := 109) (v' := .bool (decide (TxV.t (⟨v.t.at v16.t.ts, v.ra, v.rc, v.wa, v.wc⟩ : TxV) = v16.t))) (vs := []) (obs := []) #[true, true, true, true, true, true, true, true, true, true, true, true, true, true, true, true, true, true, true, true, true, true, true, true, true, true, true, true, true, true, true, true, true, true, true, true, false, false, false, false, false, false, false, false, false, false, false, false, false, false, false, false, false, false, false, false, false, false, false] (by kernel_rfl) hK hS rfl (by kernel_rfl) (by kernel_rfl) (by kernel_rfl) (by kernel_rfl) (fun _ _ _ h => h) (fun _ => by kernel_rfl) (fun W hW => trivial) rfl rfl rfl ?_
            clear hK a; intro a hK
            have hd171 : (decide (TxV.t (⟨v.t.at v16.t.ts, v.ra, v.rc, v.wa, v.wc⟩ : TxV) = v16.t)) = true := decide_eq_true hla.2.2.2.1
            replace hK := hK.sub (d := 109) (v' := .bool true) rfl (congrArg Value.bool hd171)
            refine hd_take (i := 36) (d := 110) (v' := .agg #[.int .i64 M15.last, .slice M15.sa M15.st.length M15.sc, .slice M15.oa M15.op.length M15.oc]) (vs := [.int .i64 M15.last, .slice M15.sa M15.st.length M15.sc, .slice M15.oa M15.op.length M15.oc]) (obs := [(⟨g18, 0, none⟩, .int .i64 M15.last), (⟨g18, 1, none⟩, .slice M15.sa M15.st.length M15.sc), (⟨g18, 2, none⟩, .slice M15.oa M15.op.length M15.oc)]) #[true, true, true, true, true, true, true, true, true, true, true, true, true, true, true, true, true, true, true, true, true, true, true, true, true, true, true, true, true, true, true, true, true, true, true, true, true, false, false, false, false, false, false, false, false, false, false, false, false, false, false, false, false, false, false, false, false, false, false] (by kernel_rfl) hK hS rfl (by kernel_rfl) (by kernel_rfl) (by kernel_rfl) (by kernel_rfl) (fun _ _ _ h => h) (fun _ => by kernel_rfl) (fun W hW => ⟨(((hE0.call hW).blk 4 rfl).cell 0).trans rfl, (((hE0.call hW).blk 4 rfl).cell 1).trans rfl, (((hE0.call hW).blk 4 rfl).cell 2).trans rfl, trivial⟩) rfl rfl rfl ?_
            clear hK a; intro a hK
            refine hd_all [37] (by kernel_rfl) (by simp) ⟨?_, trivial⟩
            refine hd_call (d := 111) (f := 15) (args := #[.agg #[.int .i64 M15.last, .slice M15.sa M15.st.length M15.sc, .slice M15.oa M15.op.length M15.oc]]) rfl hK hS rfl (fun _ => by kernel_rfl) rfl rfl (lv_any M15 _ hMS (hE.get 1 rfl)) ?_
            rintro e w172 ⟨rfl, hb⟩
            refine ⟨_, rfl, hb, ?_⟩
            clear hK a hS; intro a hK hS
            replace hE := hE.call hb
            clear hb
            refine hd_take (i := 38) (d := 112) (v' := .bool M15.ok) (vs := []) (obs := []) #[true, true, true, true, true, true, true, true, true, true, true, true, true, true, true, true, true, true, true, true, true, true, true, true, true, true, true, true, true, true, true, true, true, true, true, true, true, true, true, false, false, false, false, false, false, false, false, false, false, false, false, false, false, false, false, false, false, false, false] (by kernel_rfl) hK hS rfl (by kernel_rfl) (by kernel_rfl) (by kernel_rfl) (by kernel_rfl) (fun _ _ _ h => h) (fun _ => by kernel_rfl) (fun W hW => trivial) rfl rfl rfl ?_
            clear hK a; intro a hK
            refine hd_take (i := 39) (d := 113) (v' := .bool M15.ok) (vs := []) (obs := []) #[true, true, true, true, true, true, true, true, true, true, true, true, true, true, true, true, true, true, true, true, true, true, true, true, true, true, true, true, true, true, true, true, true, true, true, true, true, true, true, true, false, false, false, false, false, false, false, false, false, false, false, false, false, false, false, false, false, false, false] (by kernel_rfl) hK hS rfl (by kernel_rfl) (by kernel_rfl) (by kernel_rfl) (by kernel_rfl) (fun _ _ _ h => h) (fun _ => by kernel_rfl) (fun W hW => trivial) rfl rfl rfl ?_
            clear hK a; intro a hK
            have hd173 : (M15.ok) = true := hokM
            replace hK := hK.sub (d := 113) (v' := .bool true) rfl (congrArg Value.bool hd173)
            refine hd_take (i := 40) (d := 114) (v' := .pointer (some ⟨g18, 0, none⟩)) (vs := []) (obs := []) #[true, true, true, true, true, true, true, true, true, true, true, true, true, true, true, true, true, true, true, true, true, true, true, true, true, true, true, true, true, true, true, true, true, true, true, true, true, true, true, true, true, false, false, false, false, false, false, false, false, false, false, false, false, false, false, false, false, false, false] (by kernel_rfl) hK hS rfl (by kernel_rfl) (by kernel_rfl) (by kernel_rfl) (by kernel_rfl) (fun _ _ _ h => h) (fun _ => by kernel_rfl) (fun W hW => trivial) rfl rfl rfl ?_
            clear hK a; intro a hK
            refine hd_take (i := 41) (d := 115) (v' := .int .i64 M15.last) (vs := [.int .i64 M15.last]) (obs := [(⟨g18, 0, none⟩, .int .i64 M15.last)]) #[true, true, true, true, true, true, true, true, true, true, true, true, true, true, true, true, true, true, true, true, true, true, true, true, true, true, true, true, true, true, true, true, true, true, true, true, true, true, true, true, true, true, false, false, false, false, false, false, false, false, false, false, false, false, false, false, false, false, false] (by kernel_rfl) hK hS rfl (by kernel_rfl) (by kernel_rfl) (by kernel_rfl) (by kernel_rfl) (fun _ _ _ h => h) (fun _ => by kernel_rfl) (fun W hW => ⟨(((hE0.call hW).blk 4 rfl).cell 0).trans rfl, trivial⟩) rfl rfl rfl ?_
            clear hK a; intro a hK
            refine hd_take (i := 42) (d := 116) (v' := .pointer (some ⟨g20, 1, none⟩)) (vs := []) (obs := []) #[true, true, true, true, true, true, true, true, true, true, true, true, true, true, true, true, true, true, true, true, true, true, true, true, true, true, true, true, true, true, true, true, true, true, true, true, true, true, true, true, true, true, true, false, false, false, false, false, false, false, false, false, false, false, false, false, false, false, false] (by kernel_rfl) hK hS rfl (by kernel_rfl) (by kernel_rfl) (by kernel_rfl) (by kernel_rfl) (fun _ _ _ h => h) (fun _ => by kernel_rfl) (fun W hW => trivial) rfl rfl rfl ?_
            clear hK a; intro a hK
            refine hd_take (i := 43) (d := 117) (v' := .int .i64 v16.t.ts) (vs := [.int .i64 v16.t.ts]) (obs := [(⟨g20, 1, none⟩, .int .i64 v16.t.ts)]) #[true, true, true, true, true, true, true, true, true, true, true, true, true, true, true, true, true, true, true, true, true, true, true, true, true, true, true, true, true, true, true, true, true, true, true, true, true, true, true, true, true, true, true, true, false, false, false, false, false, false, false, false, false, false, false, false, false, false, false] (by kernel_rfl) hK hS rfl (by kernel_rfl) (by kernel_rfl) (by kernel_rfl) (by kernel_rfl) (fun _ _ _ h => h) (fun _ => by kernel_rfl) (fun W hW => ⟨(((hE0.call hW).blk 3 rfl).cell 1).trans rfl, trivial⟩) rfl rfl rfl ?_
            clear hK a; intro a hK
            refine hd_take (i := 44) (d := 118) (v' := .bool (M15.last == v16.t.ts)) (vs := []) (obs := []) #[true, true, true, true, true, true, true, true, true, true, true, true, true, true, true, true, true, true, true, true, true, true, true, true, true, true, true, true, true, true, true, true, true, true, true, true, true, true, true, true, true, true, true, true, true, false, false, false, false, false, false, false, false, false, false, false, false, false, false] (by kernel_rfl) hK hS rfl (by kernel_rfl) (by kernel_rfl) (by kernel_rfl) (by kernel_rfl) (fun _ _ _ h => h) (fun _ => by kernel_rfl) (fun W hW => trivial) rfl rfl rfl ?_
            clear hK a; intro a hK
            refine hd_take (i := 45) (d := 119) (v' := .bool (M15.last == v16.t.ts)) (vs := []) (obs := []) #[true, true, true, true, true, true, true, true, true, true, true, true, true, true, true, true, true, true, true, true, true, true, true, true, true, true, true, true, true, true, true, true, true, true, true, true, true, true, true, true, true, true, true, true, true, true, false, false, false, false, false, false, false, false, false, false, false, false, false] (by kernel_rfl) hK hS rfl (by kernel_rfl) (by kernel_rfl) (by kernel_rfl) (by kernel_rfl) (fun _ _ _ h => h) (fun _ => by kernel_rfl) (fun W hW => trivial) rfl rfl rfl ?_
            clear hK a; intro a hK
            refine hd_take (i := 46) (d := 120) (v' := .bool (M15.last == v16.t.ts)) (vs := []) (obs := []) #[true, true, true, true, true, true, true, true, true, true, true, true, true, true, true, true, true, true, true, true, true, true, true, true, true, true, true, true, true, true, true, true, true, true, true, true, true, true, true, true, true, true, true, true, true, true, true, false, false, false, false, false, false, false, false, false, false, false, false] (by kernel_rfl) hK hS rfl (by kernel_rfl) (by kernel_rfl) (by kernel_rfl) (by kernel_rfl) (fun _ _ _ h => h) (fun _ => by kernel_rfl) (fun W hW => trivial) rfl rfl rfl ?_
            clear hK a; intro a hK
            have hd174 : ((M15.last == v16.t.ts)) = true := by rw [hlst]; exact beq_self_eq_true _
            replace hK := hK.sub (d := 120) (v' := .bool true) rfl (congrArg Value.bool hd174)
            refine hd_take (i := 47) (d := 121) (v' := .pointer (some ⟨g18, 2, none⟩)) (vs := []) (obs := []) #[true, true, true, true, true, true, true, true, true, true, true, true, true, true, true, true, true, true, true, true, true, true, true, true, true, true, true, true, true, true, true, true, true, true, true, true, true, true, true, true, true, true, true, true, true, true, true, true, false, false, false, false, false, false, false, false, false, false, false] (by kernel_rfl) hK hS rfl (by kernel_rfl) (by kernel_rfl) (by kernel_rfl) (by kernel_rfl) (fun _ _ _ h => h) (fun _ => by kernel_rfl) (fun W hW => trivial) rfl rfl rfl ?_
            clear hK a; intro a hK
            refine hd_take (i := 48) (d := 122) (v' := .slice M15.oa M15.op.length M15.oc) (vs := [.slice M15.oa M15.op.length M15.oc]) (obs := [(⟨g18, 2, none⟩, .slice M15.oa M15.op.length M15.oc)]) #[true, true, true, true, true, true, true, true, true, true, true, true, true, true, true, true, true, true, true, true, true, true, true, true, true, true, true, true, true, true, true, true, true, true, true, true, true, true, true, true, true, true, true, true, true, true, true, true, true, false, false, false, false, false, false, false, false, false, false] (by kernel_rfl) hK hS rfl (by kernel_rfl) (by kernel_rfl) (by kernel_rfl) (by kernel_rfl) (fun _ _ _ h => h) (fun _ => by kernel_rfl) (fun W hW => ⟨(((hE0.call hW).blk 4 rfl).cell 2).trans rfl, trivial⟩) rfl rfl rfl ?_
            clear hK a; intro a hK
            refine hd_take (i := 50) (d := 124) (v' := .pointer (some ⟨g1, 2, none⟩)) (vs := []) (obs := []) #[true, true, true, true, true, true, true, true, true, true, true, true, true, true, true, true, true, true, true, true, true, true, true, true, true, true, true, true, true, true, true, true, true, true, true, true, true, true, true, true, true, true, true, true, true, true, true, true, true, false, true, false, false, false, false, false, false, false, false] (by kernel_rfl) hK hS rfl (by kernel_rfl) (by kernel_rfl) (by kernel_rfl) (by kernel_rfl) (fun _ _ _ h => h) (fun _ => by kernel_rfl) (fun W hW => trivial) rfl rfl rfl ?_
            clear hK a; intro a hK
            refine hd_take (i := 51) (d := 125) (v' := .slice L.oa L.op.length L.oc) (vs := [.slice L.oa L.op.length L.oc]) (obs := [(⟨g1, 2, none⟩, .slice L.oa L.op.length L.oc)]) #[true, true, true, true, true, true, true, true, true, true, true, true, true, true, true, true, true, true, true, true, true, true, true, true, true, true, true, true, true, true, true, true, true, true, true, true, true, true, true, true, true, true, true, true, true, true, true, true, true, false, true, true, false, false, false, false, false, false, false] (by kernel_rfl) hK hS rfl (by kernel_rfl) (by kernel_rfl) (by kernel_rfl) (by kernel_rfl) (fun _ _ _ h => h) (fun _ => by kernel_rfl) (fun W hW => ⟨(((hE0.call hW).blk 9 rfl).cell 2).trans rfl, trivial⟩) rfl rfl rfl ?_
            clear hK a; intro a hK
            refine hd_take (i := 53) (d := 127) (v' := .agg #[.int .i64 v16.t.id, .int .i64 v16.t.ts, .slice v16.ra v16.t.reads.length v16.rc, .slice v16.wa v16.t.writes.length v16.wc]) (vs := [.int .i64 v16.t.id, .int .i64 v16.t.ts, .slice v16.ra v16.t.reads.length v16.rc, .slice v16.wa v16.t.writes.length v16.wc]) (obs := [(⟨g20, 0, none⟩, .int .i64 v16.t.id), (⟨g20, 1, none⟩, .int .i64 v16.t.ts), (⟨g20, 2, none⟩, .slice v16.ra v16.t.reads.length v16.rc), (⟨g20, 3, none⟩, .slice v16.wa v16.t.writes.length v16.wc)]) #[true, true, true, true, true, true, true, true, true, true, true, true, true, true, true, true, true, true, true, true, true, true, true, true, true, true, true, true, true, true, true, true, true, true, true, true, true, true, true, true, true, true, true, true, true, true, true, true, true, false, true, true, false, true, false, false, false, false, false] (by kernel_rfl) hK hS rfl (by kernel_rfl) (by kernel_rfl) (by kernel_rfl) (by kernel_rfl) (fun _ _ _ h => h) (fun _ => by kernel_rfl) (fun W hW => ⟨(((hE0.call hW).blk 3 rfl).cell 0).trans rfl, (((hE0.call hW).blk 3 rfl).cell 1).trans rfl, (((hE0.call hW).blk 3 rfl).cell 2).trans rfl, (((hE0.call hW).blk 3 rfl).cell 3).trans rfl, trivial⟩) rfl rfl rfl ?_
            clear hK a; intro a hK
            refine hd_all [49, 54] (by kernel_rfl) (by simp) ⟨?_, ?_, trivial⟩
            · refine hd_new (d := 123) (v := fun g => .slice (some ⟨g, 0, none⟩) 0 0) (cs := #[]) (t := 29) rfl hK hE hS rfl (fun _ _ => by kernel_rfl) rfl rfl ?_
              have hs_ := hS.size; clear hK hE hS a; intro a g175 w176 hS hg_ hK hE
              have hbg175 : w161.heap.size ≤ g175 := by omega
              clear hg_ hs_
              refine hd_all [52, 54] (by kernel_rfl) (by simp) ⟨?_, ?_, trivial⟩
              · replace hE := hE.own 0 4 0 rfl rfl (by simp only [maxLen]; omega) rfl
                obtain ⟨ti_, hti_, hz_, hm_, hby_⟩ := info_parts (show (Try.prog.info? 29).map (fun i => (i.zero, i.size, i.bytes)) = some (some (.agg #[.int .i64 0, .int .i64 0, .slice none 0 0, .slice none 0 0]), 4, 64) from by kernel_rfl)
                refine hd_ap (d := 126) (news := (L.op.flatMap TxV.cells)) (k2 := L.op.length) (xs2 := (L.op.flatMap TxV.cells)) 0 (Nat.zero_add _) (List.nil_append _) rfl hS hK hE rfl rfl (fun _ => rfl) (fun _ => rfl) Try.underlying23 hti_ hz_ hm_ hby_ rfl (by decide) rfl (fun g hg => by injection hg with hg; subst hg; exact hbg175) (by rw [flat_len TxV.cells 4 TxV.len]) (hE.get 11 rfl) (tx_one L.op) (by simp only [maxLen]; omega) (by omega) rfl rfl ?_
                clear hK hE a hS ti_ hti_ hz_ hm_ hby_; intro A177 c178 a w179 hl180 hm181 hS hr182 hK hev_
                have hE := hev_ _ rfl
                clear hev_
                refine hd_all [54] (by kernel_rfl) (by simp) ⟨?_, trivial⟩
                refine hd_new (d := 128) (v := fun g => .slice (some ⟨g, 0, none⟩) 1 1) (cs := #[.int .i64 v16.t.id, .int .i64 v16.t.ts, .slice v16.ra v16.t.reads.length v16.rc, .slice v16.wa v16.t.writes.length v16.wc]) (t := 29) rfl hK hE hS rfl (fun _ _ => by kernel_rfl) rfl rfl ?_
                have hs_ := hS.size; clear hK hE hS a; intro a g183 w184 hS hg_ hK hE
                have hbg183 : w161.heap.size ≤ g183 := by omega
                clear hg_ hs_
                refine hd_all [55] (by kernel_rfl) (by simp) ⟨?_, trivial⟩
                obtain ⟨ti_, hti_, hz_, hm_, hby_⟩ := info_parts (show (Try.prog.info? 29).map (fun i => (i.zero, i.size, i.bytes)) = some (some (.agg #[.int .i64 0, .int .i64 0, .slice none 0 0, .slice none 0 0]), 4, 64) from by kernel_rfl)
                refine hd_ap (d := 129) (news := [.int .i64 v16.t.id, .int .i64 v16.t.ts, .slice v16.ra v16.t.reads.length v16.rc, .slice v16.wa v16.t.writes.length v16.wc]) (k2 := (L.op ++ [v16]).length) (xs2 := ((L.op ++ [v16]).flatMap TxV.cells)) 1 (by simp) (by rw [List.flatMap_append]; first | done | rfl) rfl hS hK hE rfl rfl (fun _ => rfl) (fun _ => rfl) Try.underlying23 hti_ hz_ hm_ hby_ rfl (by decide) rfl hr182 (by rfl) (Rd.of_blk (hE.blk 0 rfl)) (List.all_eq_true.1 (by kernel_rfl : List.all [.int .i64 v16.t.id, .int .i64 v16.t.ts, .slice v16.ra v16.t.reads.length v16.rc, .slice v16.wa v16.t.writes.length v16.wc] Value.oneCell' = true)) (by simp only [maxLen]; omega) (by omega) rfl rfl ?_
                clear hK hE a hS ti_ hti_ hz_ hm_ hby_; intro A185 c186 a w187 hl188 hm189 hS hr190 hK hev_
                have hE := hev_ _ rfl
                clear hev_
                refine hd_all [56] (by kernel_rfl) (by simp) ⟨?_, trivial⟩
                refine hd_call (d := 130) (f := 21) (args := #[.slice M15.oa M15.op.length M15.oc, .slice A185 (L.op ++ [v16]).length c186]) rfl hK hS rfl (fun _ => by kernel_rfl) rfl rfl (rSameTxs_any M15.oa A185 M15.oc c186 M15.op (L.op ++ [v16]) _ hMl.1 hMl.2.2 (by simp; omega) (LdW.o (hE.get 3 rfl)) ⟨hE.rd 1 rfl, fun x hx => by rcases List.mem_append.1 hx with hx | hx; exact (LdW.o (hE.get 14 rfl)).each x hx; obtain rfl : x = v16 := (by simpa using hx); exact (hE.get 2 rfl)⟩) ?_
                rintro e w191 ⟨rfl, hb⟩
                refine ⟨_, rfl, hb, ?_⟩
                clear hK a hS; intro a hK hS
                replace hE := hE.call hb
                clear hb
                refine hd_take (i := 57) (d := 131) (v' := .bool (decide (txs M15.op = txs (L.op ++ [v16])))) (vs := []) (obs := []) #[true, true, true, true, true, true, true, true, true, true, true, true, true, true, true, true, true, true, true, true, true, true, true, true, true, true, true, true, true, true, true, true, true, true, true, true, true, true, true, true, true, true, true, true, true, true, true, true, true, true, true, true, true, true, true, true, true, true, false] (by kernel_rfl) hK hS rfl (by kernel_rfl) (by kernel_rfl) (by kernel_rfl) (by kernel_rfl) (fun _ _ _ h => h) (fun _ => by kernel_rfl) (fun W hW => trivial) rfl rfl rfl ?_
                clear hK a; intro a hK
                refine hd_take (i := 58) (d := 8) (v' := .bool (decide (txs M15.op = txs (L.op ++ [v16])))) (vs := []) (obs := []) #[true, true, true, true, true, true, true, true, true, true, true, true, true, true, true, true, true, true, true, true, true, true, true, true, true, true, true, true, true, true, true, true, true, true, true, true, true, true, true, true, true, true, true, true, true, true, true, true, true, true, true, true, true, true, true, true, true, true, true] (by kernel_rfl) hK hS rfl (by kernel_rfl) (by kernel_rfl) (by kernel_rfl) (by kernel_rfl) (fun _ _ _ h => h) (fun _ => by kernel_rfl) (fun W hW => trivial) rfl rfl rfl ?_
                clear hK a; intro a hK
                refine hd_done (by kernel_rfl) ?_ _
                clear hE0 hS
                replace hK := hK.weak (K' := [(8, .bool (decide (txs M15.op = txs (L.op ++ [v16]))))]) ⟨rfl, trivial⟩
                refine xt_norm ?_
                refine wp_ret ?_
                have hd192 : (decide (txs M15.op = txs (L.op ++ [v16]))) = true := decide_eq_true (by rw [hopM]; simp [txs, LdV.d])
                replace hK := hK.sub (d := 8) (v' := .bool true) rfl (congrArg Value.bool hd192)
                refine vc_ret (v' := .bool true) (vs := []) (obs := []) hK (fun _ => by kernel_rfl) trivial rfl ?_
                exact ⟨rfl, hE.b⟩
              · refine hd_new (d := 128) (v := fun g => .slice (some ⟨g, 0, none⟩) 1 1) (cs := #[.int .i64 v16.t.id, .int .i64 v16.t.ts, .slice v16.ra v16.t.reads.length v16.rc, .slice v16.wa v16.t.writes.length v16.wc]) (t := 29) rfl hK hE hS rfl (fun _ _ => by kernel_rfl) rfl rfl ?_
                have hs_ := hS.size; clear hK hE hS a; intro a g193 w194 hS hg_ hK hE
                have hbg193 : w161.heap.size ≤ g193 := by omega
                clear hg_ hs_
                refine hd_all [52] (by kernel_rfl) (by simp) ⟨?_, trivial⟩
                replace hE := hE.own 1 4 0 rfl rfl (by simp only [maxLen]; omega) rfl
                obtain ⟨ti_, hti_, hz_, hm_, hby_⟩ := info_parts (show (Try.prog.info? 29).map (fun i => (i.zero, i.size, i.bytes)) = some (some (.agg #[.int .i64 0, .int .i64 0, .slice none 0 0, .slice none 0 0]), 4, 64) from by kernel_rfl)
                refine hd_ap (d := 126) (news := (L.op.flatMap TxV.cells)) (k2 := L.op.length) (xs2 := (L.op.flatMap TxV.cells)) 1 (Nat.zero_add _) (List.nil_append _) rfl hS hK hE rfl rfl (fun _ => rfl) (fun _ => rfl) Try.underlying23 hti_ hz_ hm_ hby_ rfl (by decide) rfl (fun g hg => by injection hg with hg; subst hg; exact hbg175) (by rw [flat_len TxV.cells 4 TxV.len]) (hE.get 12 rfl) (tx_one L.op) (by simp only [maxLen]; omega) (by omega) rfl rfl ?_
                clear hK hE a hS ti_ hti_ hz_ hm_ hby_; intro A195 c196 a w197 hl198 hm199 hS hr200 hK hev_
                have hE := hev_ _ rfl
                clear hev_
                refine hd_all [55] (by kernel_rfl) (by simp) ⟨?_, trivial⟩
                obtain ⟨ti_, hti_, hz_, hm_, hby_⟩ := info_parts (show (Try.prog.info? 29).map (fun i => (i.zero, i.size, i.bytes)) = some (some (.agg #[.int .i64 0, .int .i64 0, .slice none 0 0, .slice none 0 0]), 4, 64) from by kernel_rfl)
                refine hd_ap (d := 129) (news := [.int .i64 v16.t.id, .int .i64 v16.t.ts, .slice v16.ra v16.t.reads.length v16.rc, .slice v16.wa v16.t.writes.length v16.wc]) (k2 := (L.op ++ [v16]).length) (xs2 := ((L.op ++ [v16]).flatMap TxV.cells)) 1 (by simp) (by rw [List.flatMap_append]; first | done | rfl) rfl hS hK hE rfl rfl (fun _ => rfl) (fun _ => rfl) Try.underlying23 hti_ hz_ hm_ hby_ rfl (by decide) rfl hr200 (by rfl) (Rd.of_blk (hE.blk 0 rfl)) (List.all_eq_true.1 (by kernel_rfl : List.all [.int .i64 v16.t.id, .int .i64 v16.t.ts, .slice v16.ra v16.t.reads.length v16.rc, .slice v16.wa v16.t.writes.length v16.wc] Value.oneCell' = true)) (by simp only [maxLen]; omega) (by omega) rfl rfl ?_
                clear hK hE a hS ti_ hti_ hz_ hm_ hby_; intro A201 c202 a w203 hl204 hm205 hS hr206 hK hev_
                have hE := hev_ _ rfl
                clear hev_
                refine hd_all [56] (by kernel_rfl) (by simp) ⟨?_, trivial⟩
                refine hd_call (d := 130) (f := 21) (args := #[.slice M15.oa M15.op.length M15.oc, .slice A201 (L.op ++ [v16]).length c202]) rfl hK hS rfl (fun _ => by kernel_rfl) rfl rfl (rSameTxs_any M15.oa A201 M15.oc c202 M15.op (L.op ++ [v16]) _ hMl.1 hMl.2.2 (by simp; omega) (LdW.o (hE.get 3 rfl)) ⟨hE.rd 1 rfl, fun x hx => by rcases List.mem_append.1 hx with hx | hx; exact (LdW.o (hE.get 14 rfl)).each x hx; obtain rfl : x = v16 := (by simpa using hx); exact (hE.get 2 rfl)⟩) ?_
                rintro e w207 ⟨rfl, hb⟩
                refine ⟨_, rfl, hb, ?_⟩
                clear hK a hS; intro a hK hS
                replace hE := hE.call hb
                clear hb
                refine hd_take (i := 57) (d := 131) (v' := .bool (decide (txs M15.op = txs (L.op ++ [v16])))) (vs := []) (obs := []) #[true, true, true, true, true, true, true, true, true, true, true, true, true, true, true, true, true, true, true, true, true, true, true, true, true, true, true, true, true, true, true, true, true, true, true, true, true, true, true, true, true, true, true, true, true, true, true, true, true, true, true, true, true, true, true, true, true, true, false] (by kernel_rfl) hK hS rfl (by kernel_rfl) (by kernel_rfl) (by kernel_rfl) (by kernel_rfl) (fun _ _ _ h => h) (fun _ => by kernel_rfl) (fun W hW => trivial) rfl rfl rfl ?_
                clear hK a; intro a hK
                refine hd_take (i := 58) (d := 8) (v' := .bool (decide (txs M15.op = txs (L.op ++ [v16])))) (vs := []) (obs := []) #[true, true, true, true, true, true, true, true, true, true, true, true, true, true, true, true, true, true, true, true, true, true, true, true, true, true, true, true, true, true, true, true, true, true, true, true, true, true, true, true, true, true, true, true, true, true, true, true, true, true, true, true, true, true, true, true, true, true, true] (by kernel_rfl) hK hS rfl (by kernel_rfl) (by kernel_rfl) (by kernel_rfl) (by kernel_rfl) (fun _ _ _ h => h) (fun _ => by kernel_rfl) (fun W hW => trivial) rfl rfl rfl ?_
                clear hK a; intro a hK
                refine hd_done (by kernel_rfl) ?_ _
                clear hE0 hS
                replace hK := hK.weak (K' := [(8, .bool (decide (txs M15.op = txs (L.op ++ [v16]))))]) ⟨rfl, trivial⟩
                refine xt_norm ?_
                refine wp_ret ?_
                have hd208 : (decide (txs M15.op = txs (L.op ++ [v16]))) = true := decide_eq_true (by rw [hopM]; simp [txs, LdV.d])
                replace hK := hK.sub (d := 8) (v' := .bool true) rfl (congrArg Value.bool hd208)
                refine vc_ret (v' := .bool true) (vs := []) (obs := []) hK (fun _ => by kernel_rfl) trivial rfl ?_
                exact ⟨rfl, hE.b⟩
            · refine hd_new (d := 128) (v := fun g => .slice (some ⟨g, 0, none⟩) 1 1) (cs := #[.int .i64 v16.t.id, .int .i64 v16.t.ts, .slice v16.ra v16.t.reads.length v16.rc, .slice v16.wa v16.t.writes.length v16.wc]) (t := 29) rfl hK hE hS rfl (fun _ _ => by kernel_rfl) rfl rfl ?_
              have hs_ := hS.size; clear hK hE hS a; intro a g209 w210 hS hg_ hK hE
              have hbg209 : w161.heap.size ≤ g209 := by omega
              clear hg_ hs_
              refine hd_all [49] (by kernel_rfl) (by simp) ⟨?_, trivial⟩
              refine hd_new (d := 123) (v := fun g => .slice (some ⟨g, 0, none⟩) 0 0) (cs := #[]) (t := 29) rfl hK hE hS rfl (fun _ _ => by kernel_rfl) rfl rfl ?_
              have hs_ := hS.size; clear hK hE hS a; intro a g211 w212 hS hg_ hK hE
              have hbg211 : w161.heap.size ≤ g211 := by omega
              clear hg_ hs_
              refine hd_all [52] (by kernel_rfl) (by simp) ⟨?_, trivial⟩
              replace hE := hE.own 0 4 0 rfl rfl (by simp only [maxLen]; omega) rfl
              obtain ⟨ti_, hti_, hz_, hm_, hby_⟩ := info_parts (show (Try.prog.info? 29).map (fun i => (i.zero, i.size, i.bytes)) = some (some (.agg #[.int .i64 0, .int .i64 0, .slice none 0 0, .slice none 0 0]), 4, 64) from by kernel_rfl)
              refine hd_ap (d := 126) (news := (L.op.flatMap TxV.cells)) (k2 := L.op.length) (xs2 := (L.op.flatMap TxV.cells)) 0 (Nat.zero_add _) (List.nil_append _) rfl hS hK hE rfl rfl (fun _ => rfl) (fun _ => rfl) Try.underlying23 hti_ hz_ hm_ hby_ rfl (by decide) rfl (fun g hg => by injection hg with hg; subst hg; exact hbg211) (by rw [flat_len TxV.cells 4 TxV.len]) (hE.get 12 rfl) (tx_one L.op) (by simp only [maxLen]; omega) (by omega) rfl rfl ?_
              clear hK hE a hS ti_ hti_ hz_ hm_ hby_; intro A213 c214 a w215 hl216 hm217 hS hr218 hK hev_
              have hE := hev_ _ rfl
              clear hev_
              refine hd_all [55] (by kernel_rfl) (by simp) ⟨?_, trivial⟩
              obtain ⟨ti_, hti_, hz_, hm_, hby_⟩ := info_parts (show (Try.prog.info? 29).map (fun i => (i.zero, i.size, i.bytes)) = some (some (.agg #[.int .i64 0, .int .i64 0, .slice none 0 0, .slice none 0 0]), 4, 64) from by kernel_rfl)
              refine hd_ap (d := 129) (news := [.int .i64 v16.t.id, .int .i64 v16.t.ts, .slice v16.ra v16.t.reads.length v16.rc, .slice v16.wa v16.t.writes.length v16.wc]) (k2 := (L.op ++ [v16]).length) (xs2 := ((L.op ++ [v16]).flatMap TxV.cells)) 0 (by simp) (by rw [List.flatMap_append]; first | done | rfl) rfl hS hK hE rfl rfl (fun _ => rfl) (fun _ => rfl) Try.underlying23 hti_ hz_ hm_ hby_ rfl (by decide) rfl hr218 (by rfl) (Rd.of_blk (hE.blk 1 rfl)) (List.all_eq_true.1 (by kernel_rfl : List.all [.int .i64 v16.t.id, .int .i64 v16.t.ts, .slice v16.ra v16.t.reads.length v16.rc, .slice v16.wa v16.t.writes.length v16.wc] Value.oneCell' = true)) (by simp only [maxLen]; omega) (by omega) rfl rfl ?_
              clear hK hE a hS ti_ hti_ hz_ hm_ hby_; intro A219 c220 a w221 hl222 hm223 hS hr224 hK hev_
              have hE := hev_ _ rfl
              clear hev_
              refine hd_all [56] (by kernel_rfl) (by simp) ⟨?_, trivial⟩
              refine hd_call (d := 130) (f := 21) (args := #[.slice M15.oa M15.op.length M15.oc, .slice A219 (L.op ++ [v16]).length c220]) rfl hK hS rfl (fun _ => by kernel_rfl) rfl rfl (rSameTxs_any M15.oa A219 M15.oc c220 M15.op (L.op ++ [v16]) _ hMl.1 hMl.2.2 (by simp; omega) (LdW.o (hE.get 3 rfl)) ⟨hE.rd 0 rfl, fun x hx => by rcases List.mem_append.1 hx with hx | hx; exact (LdW.o (hE.get 14 rfl)).each x hx; obtain rfl : x = v16 := (by simpa using hx); exact (hE.get 2 rfl)⟩) ?_
              rintro e w225 ⟨rfl, hb⟩
              refine ⟨_, rfl, hb, ?_⟩
              clear hK a hS; intro a hK hS
              replace hE := hE.call hb
              clear hb
              refine hd_take (i := 57) (d := 131) (v' := .bool (decide (txs M15.op = txs (L.op ++ [v16])))) (vs := []) (obs := []) #[true, true, true, true, true, true, true, true, true, true, true, true, true, true, true, true, true, true, true, true, true, true, true, true, true, true, true, true, true, true, true, true, true, true, true, true, true, true, true, true, true, true, true, true, true, true, true, true, true, true, true, true, true, true, true, true, true, true, false] (by kernel_rfl) hK hS rfl (by kernel_rfl) (by kernel_rfl) (by kernel_rfl) (by kernel_rfl) (fun _ _ _ h => h) (fun _ => by kernel_rfl) (fun W hW => trivial) rfl rfl rfl ?_
              clear hK a; intro a hK
              refine hd_take (i := 58) (d := 8) (v' := .bool (decide (txs M15.op = txs (L.op ++ [v16])))) (vs := []) (obs := []) #[true, true, true, true, true, true, true, true, true, true, true, true, true, true, true, true, true, true, true, true, true, true, true, true, true, true, true, true, true, true, true, true, true, true, true, true, true, true, true, true, true, true, true, true, true, true, true, true, true, true, true, true, true, true, true, true, true, true, true] (by kernel_rfl) hK hS rfl (by kernel_rfl) (by kernel_rfl) (by kernel_rfl) (by kernel_rfl) (fun _ _ _ h => h) (fun _ => by kernel_rfl) (fun W hW => trivial) rfl rfl rfl ?_
              clear hK a; intro a hK
              refine hd_done (by kernel_rfl) ?_ _
              clear hE0 hS
              replace hK := hK.weak (K' := [(8, .bool (decide (txs M15.op = txs (L.op ++ [v16]))))]) ⟨rfl, trivial⟩
              refine xt_norm ?_
              refine wp_ret ?_
              have hd226 : (decide (txs M15.op = txs (L.op ++ [v16]))) = true := decide_eq_true (by rw [hopM]; simp [txs, LdV.d])
              replace hK := hK.sub (d := 8) (v' := .bool true) rfl (congrArg Value.bool hd226)
              refine vc_ret (v' := .bool true) (vs := []) (obs := []) hK (fun _ => by kernel_rfl) trivial rfl ?_
              exact ⟨rfl, hE.b⟩
          · have hc169p := ne_of_beq_false hc169
            replace hK := hK.sub (d := 96) (v' := .bool false) rfl (congrArg Value.bool hc169)
            refine hd_take (i := 23) (d := 97) (v' := .pointer (some ⟨g20, 1, none⟩)) (vs := []) (obs := []) #[true, true, true, true, true, true, true, true, true, true, true, true, true, true, true, true, true, true, true, true, true, true, true, true, false, false, false, false, false, false, false, false, false, false, false, false, false, false, false, false, false, false, false, false, false, false, false, false, false, false, false, false, false, false, false, false, false, false, false] (by kernel_rfl) hK hS rfl (by kernel_rfl) (by kernel_rfl) (by kernel_rfl) (by kernel_rfl) (fun _ _ _ h => h) (fun _ => by kernel_rfl) (fun W hW => trivial) rfl rfl rfl ?_
            clear hK a; intro a hK
            refine hd_take (i := 24) (d := 98) (v' := .int .i64 v16.t.ts) (vs := [.int .i64 v16.t.ts]) (obs := [(⟨g20, 1, none⟩, .int .i64 v16.t.ts)]) #[true, true, true, true, true, true, true, true, true, true, true, true, true, true, true, true, true, true, true, true, true, true, true, true, true, false, false, false, false, false, false, false, false, false, false, false, false, false, false, false, false, false, false, false, false, false, false, false, false, false, false, false, false, false, false, false, false, false, false] (by kernel_rfl) hK hS rfl (by kernel_rfl) (by kernel_rfl) (by kernel_rfl) (by kernel_rfl) (fun _ _ _ h => h) (fun _ => by kernel_rfl) (fun W hW => ⟨(((hE0.call hW).blk 3 rfl).cell 1).trans rfl, trivial⟩) rfl rfl rfl ?_
            clear hK a; intro a hK
            refine hd_take (i := 25) (d := 99) (v' := .pointer (some ⟨g5, 1, none⟩)) (vs := []) (obs := []) #[true, true, true, true, true, true, true, true, true, true, true, true, true, true, true, true, true, true, true, true, true, true, true, true, true, true, false, false, false, false, false, false, false, false, false, false, false, false, false, false, false, false, false, false, false, false, false, false, false, false, false, false, false, false, false, false, false, false, false] (by kernel_rfl) hK hS rfl (by kernel_rfl) (by kernel_rfl) (by kernel_rfl) (by kernel_rfl) (fun _ _ _ h => h) (fun _ => by kernel_rfl) (fun W hW => trivial) rfl rfl rfl ?_
            clear hK a; intro a hK
            refine hd_take (i := 26) (d := 100) (v' := .int .i64 hi) (vs := [.int .i64 hi]) (obs := [(⟨g5, 1, none⟩, .int .i64 hi)]) #[true, true, true, true, true, true, true, true, true, true, true, true, true, true, true, true, true, true, true, true, true, true, true, true, true, true, true, false, false, false, false, false, false, false, false, false, false, false, false, false, false, false, false, false, false, false, false, false, false, false, false, false, false, false, false, false, false, false, false] (by kernel_rfl) hK hS rfl (by kernel_rfl) (by kernel_rfl) (by kernel_rfl) (by kernel_rfl) (fun _ _ _ h => h) (fun _ => by kernel_rfl) (fun W hW => ⟨(((hE0.call hW).blk 7 rfl).cell 1).trans rfl, trivial⟩) rfl rfl rfl ?_
            clear hK a; intro a hK
            refine hd_take (i := 27) (d := 101) (v' := .bool (v16.t.ts == hi)) (vs := []) (obs := []) #[true, true, true, true, true, true, true, true, true, true, true, true, true, true, true, true, true, true, true, true, true, true, true, true, true, true, true, true, false, false, false, false, false, false, false, false, false, false, false, false, false, false, false, false, false, false, false, false, false, false, false, false, false, false, false, false, false, false, false] (by kernel_rfl) hK hS rfl (by kernel_rfl) (by kernel_rfl) (by kernel_rfl) (by kernel_rfl) (fun _ _ _ h => h) (fun _ => by kernel_rfl) (fun W hW => trivial) rfl rfl rfl ?_
            clear hK a; intro a hK
            refine hd_take (i := 28) (d := 102) (v' := .bool (v16.t.ts == hi)) (vs := []) (obs := []) #[true, true, true, true, true, true, true, true, true, true, true, true, true, true, true, true, true, true, true, true, true, true, true, true, true, true, true, true, true, false, false, false, false, false, false, false, false, false, false, false, false, false, false, false, false, false, false, false, false, false, false, false, false, false, false, false, false, false, false] (by kernel_rfl) hK hS rfl (by kernel_rfl) (by kernel_rfl) (by kernel_rfl) (by kernel_rfl) (fun _ _ _ h => h) (fun _ => by kernel_rfl) (fun W hW => trivial) rfl rfl rfl ?_
            clear hK a; intro a hK
            refine hd_take (i := 29) (d := 103) (v' := .bool (v16.t.ts == hi)) (vs := []) (obs := []) #[true, true, true, true, true, true, true, true, true, true, true, true, true, true, true, true, true, true, true, true, true, true, true, true, true, true, true, true, true, true, false, false, false, false, false, false, false, false, false, false, false, false, false, false, false, false, false, false, false, false, false, false, false, false, false, false, false, false, false] (by kernel_rfl) hK hS rfl (by kernel_rfl) (by kernel_rfl) (by kernel_rfl) (by kernel_rfl) (fun _ _ _ h => h) (fun _ => by kernel_rfl) (fun W hW => trivial) rfl rfl rfl ?_
            clear hK a; intro a hK
            refine hd_take (i := 30) (d := 104) (v' := .bool (v16.t.ts == hi)) (vs := []) (obs := []) #[true, true, true, true, true, true, true, true, true, true, true, true, true, true, true, true, true, true, true, true, true, true, true, true, true, true, true, true, true, true, true, false, false, false, false, false, false, false, false, false, false, false, false, false, false, false, false, false, false, false, false, false, false, false, false, false, false, false, false] (by kernel_rfl) hK hS rfl (by kernel_rfl) (by kernel_rfl) (by kernel_rfl) (by kernel_rfl) (fun _ _ _ h => h) (fun _ => by kernel_rfl) (fun W hW => trivial) rfl rfl rfl ?_
            clear hK a; intro a hK
            have hd227 : ((v16.t.ts == hi)) = true := by rcases hla.2.2.1 with e | e; exact absurd e hc169p; rw [e]; exact beq_self_eq_true _
            replace hK := hK.sub (d := 104) (v' := .bool true) rfl (congrArg Value.bool hd227)
            refine hd_take (i := 31) (d := 105) (v' := .agg #[.int .i64 v.t.id, .int .i64 v16.t.ts, .slice v.ra v.t.reads.length v.rc, .slice v.wa v.t.writes.length v.wc]) (vs := [.int .i64 v.t.id, .int .i64 v16.t.ts, .slice v.ra v.t.reads.length v.rc, .slice v.wa v.t.writes.length v.wc]) (obs := [(⟨g3, 0, none⟩, .int .i64 v.t.id), (⟨g3, 1, none⟩, .int .i64 v16.t.ts), (⟨g3, 2, none⟩, .slice v.ra v.t.reads.length v.rc), (⟨g3, 3, none⟩, .slice v.wa v.t.writes.length v.wc)]) #[true, true, true, true, true, true, true, true, true, true, true, true, true, true, true, true, true, true, true, true, true, true, true, true, true, true, true, true, true, true, true, true, false, false, false, false, false, false, false, false, false, false, false, false, false, false, false, false, false, false, false, false, false, false, false, false, false, false, false] (by kernel_rfl) hK hS rfl (by kernel_rfl) (by kernel_rfl) (by kernel_rfl) (by kernel_rfl) (fun _ _ _ h => h) (fun _ => by kernel_rfl) (fun W hW => ⟨(((hE0.call hW).blk 8 rfl).cell 0).trans rfl, (((hE0.call hW).blk 8 rfl).cell 1).trans rfl, (((hE0.call hW).blk 8 rfl).cell 2).trans rfl, (((hE0.call hW).blk 8 rfl).cell 3).trans rfl, trivial⟩) rfl rfl rfl ?_
            clear hK a; intro a hK
            refine hd_take (i := 32) (d := 106) (v' := .agg #[.int .i64 v16.t.id, .int .i64 v16.t.ts, .slice v16.ra v16.t.reads.length v16.rc, .slice v16.wa v16.t.writes.length v16.wc]) (vs := [.int .i64 v16.t.id, .int .i64 v16.t.ts, .slice v16.ra v16.t.reads.length v16.rc, .slice v16.wa v16.t.writes.length v16.wc]) (obs := [(⟨g20, 0, none⟩, .int .i64 v16.t.id), (⟨g20, 1, none⟩, .int .i64 v16.t.ts), (⟨g20, 2, none⟩, .slice v16.ra v16.t.reads.length v16.rc), (⟨g20, 3, none⟩, .slice v16.wa v16.t.writes.length v16.wc)]) #[true, true, true, true, true, true, true, true, true, true, true, true, true, true, true, true, true, true, true, true, true, true, true, true, true, true, true, true, true, true, true, true, true, false, false, false, false, false, false, false, false, false, false, false, false, false, false, false, false, false, false, false, false, false, false, false, false, false, false] (by kernel_rfl) hK hS rfl (by kernel_rfl) (by kernel_rfl) (by kernel_rfl) (by kernel_rfl) (fun _ _ _ h => h) (fun _ => by kernel_rfl) (fun W hW => ⟨(((hE0.call hW).blk 3 rfl).cell 0).trans rfl, (((hE0.call hW).blk 3 rfl).cell 1).trans rfl, (((hE0.call hW).blk 3 rfl).cell 2).trans rfl, (((hE0.call hW).blk 3 rfl).cell 3).trans rfl, trivial⟩) rfl rfl rfl ?_
            clear hK a; intro a hK
            refine hd_all [33] (by kernel_rfl) (by simp) ⟨?_, trivial⟩
            refine hd_call (d := 107) (f := 18) (args := #[.agg #[.int .i64 v.t.id, .int .i64 v16.t.ts, .slice v.ra v.t.reads.length v.rc, .slice v.wa v.t.writes.length v.wc], .agg #[.int .i64 v16.t.id, .int .i64 v16.t.ts, .slice v16.ra v16.t.reads.length v16.rc, .slice v16.wa v16.t.writes.length v16.wc]]) rfl hK hS rfl (fun _ => by kernel_rfl) rfl rfl (rSameTx_any (⟨v.t.at v16.t.ts, v.ra, v.rc, v.wa, v.wc⟩ : TxV) v16 _ hsm (TxW.at_ts (hE.get 11 rfl) _) (hE.get 0 rfl)) ?_
            rintro e w228 ⟨rfl, hb⟩
            refine ⟨_, rfl, hb, ?_⟩
            clear hK a hS; intro a hK hS
            replace hE := hE.call hb
            clear hb
            refine hd_take (i := 34) (d := 108) (v' := .bool (decide (TxV.t (⟨v.t.at v16.t.ts, v.ra, v.rc, v.wa, v.wc⟩ : TxV) = v16.t))) (vs := []) (obs := []) #[true, true, true, true, true, true, true, true, true, true, true, true, true, true, true, true, true, true, true, true, true, true, true, true, true, true, true, true, true, true, true, true, true, true, true, false, false, false, false, false, false, false, false, false, false, false, false, false, false, false, false, false, false, false, false, false, false, false, false] (by kernel_rfl) hK hS rfl (by kernel_rfl) (by kernel_rfl) (by kernel_rfl) (by kernel_rfl) (fun _ _ _ h => h) (fun _ => by kernel_rfl) (fun W hW => trivial) rfl rfl rfl ?_
            clear hK a; intro a hK
            refine hd_take (i := 35) (d := 109) (v' := .bool (decide (TxV.t (⟨v.t.at v16.t.ts, v.ra, v.rc, v.wa, v.wc⟩ : TxV) = v16.t))) (vs := []) (obs := []) #[true, true, true, true, true, true, true, true, true, true, true, true, true, true, true, true, true, true, true, true, true, true, true, true, true, true, true, true, true, true, true, true, true, true, true, true, false, false, false, false, false, false, false, false, false, false, false, false, false, false, false, false, false, false, false, false, false, false, false] (by kernel_rfl) hK hS rfl (by kernel_rfl) (by kernel_rfl) (by kernel_rfl) (by kernel_rfl) (fun _ _ _ h => h) (fun _ => by kernel_rfl) (fun W hW => trivial) rfl rfl rfl ?_
            clear hK a; intro a hK
            have hd229 : (decide (TxV.t (⟨v.t.at v16.t.ts, v.ra, v.rc, v.wa, v.wc⟩ : TxV) = v16.t)) = true := decide_eq_true hla.2.2.2.1
            replace hK := hK.sub (d := 109) (v' := .bool true) rfl (congrArg Value.bool hd229)
            refine hd_take (i := 36) (d := 110) (v' := .agg #[.int .i64 M15.last, .slice M15.sa M15.st.length M15.sc, .slice M15.oa M15.op.length M15.oc]) (vs := [.int .i64 M15.last, .slice M15.sa M15.st.length M15.sc, .slice M15.oa M15.op.length M15.oc]) (obs := [(⟨g18, 0, none⟩, .int .i64 M15.last), (⟨g18, 1, none⟩, .slice M15.sa M15.st.length M15.sc), (⟨g18, 2, none⟩, .slice M15.oa M15.op.length M15.oc)]) #[true, true, true, true, true, true, true, true, true, true, true, true, true, true, true, true, true, true, true, true, true, true, true, true, true, true, true, true, true, true, true, true, true, true, true, true, true, false, false, false, false, false, false, false, false, false, false, false, false, false, false, false, false, false, false, false, false, false, false] (by kernel_rfl) hK hS rfl (by kernel_rfl) (by kernel_rfl) (by kernel_rfl) (by kernel_rfl) (fun _ _ _ h => h) (fun _ => by kernel_rfl) (fun W hW => ⟨(((hE0.call hW).blk 4 rfl).cell 0).trans rfl, (((hE0.call hW).blk 4 rfl).cell 1).trans rfl, (((hE0.call hW).blk 4 rfl).cell 2).trans rfl, trivial⟩) rfl rfl rfl ?_
            clear hK a; intro a hK
            refine hd_all [37] (by kernel_rfl) (by simp) ⟨?_, trivial⟩
            refine hd_call (d := 111) (f := 15) (args := #[.agg #[.int .i64 M15.last, .slice M15.sa M15.st.length M15.sc, .slice M15.oa M15.op.length M15.oc]]) rfl hK hS rfl (fun _ => by kernel_rfl) rfl rfl (lv_any M15 _ hMS (hE.get 1 rfl)) ?_
            rintro e w230 ⟨rfl, hb⟩
            refine ⟨_, rfl, hb, ?_⟩
            clear hK a hS; intro a hK hS
            replace hE := hE.call hb
            clear hb
            refine hd_take (i := 38) (d := 112) (v' := .bool M15.ok) (vs := []) (obs := []) #[true, true, true, true, true, true, true, true, true, true, true, true, true, true, true, true, true, true, true, true, true, true, true, true, true, true, true, true, true, true, true, true, true, true, true, true, true, true, true, false, false, false, false, false, false, false, false, false, false, false, false, false, false, false, false, false, false, false, false] (by kernel_rfl) hK hS rfl (by kernel_rfl) (by kernel_rfl) (by kernel_rfl) (by kernel_rfl) (fun _ _ _ h => h) (fun _ => by kernel_rfl) (fun W hW => trivial) rfl rfl rfl ?_
            clear hK a; intro a hK
            refine hd_take (i := 39) (d := 113) (v' := .bool M15.ok) (vs := []) (obs := []) #[true, true, true, true, true, true, true, true, true, true, true, true, true, true, true, true, true, true, true, true, true, true, true, true, true, true, true, true, true, true, true, true, true, true, true, true, true, true, true, true, false, false, false, false, false, false, false, false, false, false, false, false, false, false, false, false, false, false, false] (by kernel_rfl) hK hS rfl (by kernel_rfl) (by kernel_rfl) (by kernel_rfl) (by kernel_rfl) (fun _ _ _ h => h) (fun _ => by kernel_rfl) (fun W hW => trivial) rfl rfl rfl ?_
            clear hK a; intro a hK
            have hd231 : (M15.ok) = true := hokM
            replace hK := hK.sub (d := 113) (v' := .bool true) rfl (congrArg Value.bool hd231)
            refine hd_take (i := 40) (d := 114) (v' := .pointer (some ⟨g18, 0, none⟩)) (vs := []) (obs := []) #[true, true, true, true, true, true, true, true, true, true, true, true, true, true, true, true, true, true, true, true, true, true, true, true, true, true, true, true, true, true, true, true, true, true, true, true, true, true, true, true, true, false, false, false, false, false, false, false, false, false, false, false, false, false, false, false, false, false, false] (by kernel_rfl) hK hS rfl (by kernel_rfl) (by kernel_rfl) (by kernel_rfl) (by kernel_rfl) (fun _ _ _ h => h) (fun _ => by kernel_rfl) (fun W hW => trivial) rfl rfl rfl ?_
            clear hK a; intro a hK
            refine hd_take (i := 41) (d := 115) (v' := .int .i64 M15.last) (vs := [.int .i64 M15.last]) (obs := [(⟨g18, 0, none⟩, .int .i64 M15.last)]) #[true, true, true, true, true, true, true, true, true, true, true, true, true, true, true, true, true, true, true, true, true, true, true, true, true, true, true, true, true, true, true, true, true, true, true, true, true, true, true, true, true, true, false, false, false, false, false, false, false, false, false, false, false, false, false, false, false, false, false] (by kernel_rfl) hK hS rfl (by kernel_rfl) (by kernel_rfl) (by kernel_rfl) (by kernel_rfl) (fun _ _ _ h => h) (fun _ => by kernel_rfl) (fun W hW => ⟨(((hE0.call hW).blk 4 rfl).cell 0).trans rfl, trivial⟩) rfl rfl rfl ?_
            clear hK a; intro a hK
            refine hd_take (i := 42) (d := 116) (v' := .pointer (some ⟨g20, 1, none⟩)) (vs := []) (obs := []) #[true, true, true, true, true, true, true, true, true, true, true, true, true, true, true, true, true, true, true, true, true, true, true, true, true, true, true, true, true, true, true, true, true, true, true, true, true, true, true, true, true, true, true, false, false, false, false, false, false, false, false, false, false, false, false, false, false, false, false] (by kernel_rfl) hK hS rfl (by kernel_rfl) (by kernel_rfl) (by kernel_rfl) (by kernel_rfl) (fun _ _ _ h => h) (fun _ => by kernel_rfl) (fun W hW => trivial) rfl rfl rfl ?_
            clear hK a; intro a hK
            refine hd_take (i := 43) (d := 117) (v' := .int .i64 v16.t.ts) (vs := [.int .i64 v16.t.ts]) (obs := [(⟨g20, 1, none⟩, .int .i64 v16.t.ts)]) #[true, true, true, true, true, true, true, true, true, true, true, true, true, true, true, true, true, true, true, true, true, true, true, true, true, true, true, true, true, true, true, true, true, true, true, true, true, true, true, true, true, true, true, true, false, false, false, false, false, false, false, false, false, false, false, false, false, false, false] (by kernel_rfl) hK hS rfl (by kernel_rfl) (by kernel_rfl) (by kernel_rfl) (by kernel_rfl) (fun _ _ _ h => h) (fun _ => by kernel_rfl) (fun W hW => ⟨(((hE0.call hW).blk 3 rfl).cell 1).trans rfl, trivial⟩) rfl rfl rfl ?_
            clear hK a; intro a hK
            refine hd_take (i := 44) (d := 118) (v' := .bool (M15.last == v16.t.ts)) (vs := []) (obs := []) #[true, true, true, true, true, true, true, true, true, true, true, true, true, true, true, true, true, true, true, true, true, true, true, true, true, true, true, true, true, true, true, true, true, true, true, true, true, true, true, true, true, true, true, true, true, false, false, false, false, false, false, false, false, false, false, false, false, false, false] (by kernel_rfl) hK hS rfl (by kernel_rfl) (by kernel_rfl) (by kernel_rfl) (by kernel_rfl) (fun _ _ _ h => h) (fun _ => by kernel_rfl) (fun W hW => trivial) rfl rfl rfl ?_
            clear hK a; intro a hK
            refine hd_take (i := 45) (d := 119) (v' := .bool (M15.last == v16.t.ts)) (vs := []) (obs := []) #[true, true, true, true, true, true, true, true, true, true, true, true, true, true, true, true, true, true, true, true, true, true, true, true, true, true, true, true, true, true, true, true, true, true, true, true, true, true, true, true, true, true, true, true, true, true, false, false, false, false, false, false, false, false, false, false, false, false, false] (by kernel_rfl) hK hS rfl (by kernel_rfl) (by kernel_rfl) (by kernel_rfl) (by kernel_rfl) (fun _ _ _ h => h) (fun _ => by kernel_rfl) (fun W hW => trivial) rfl rfl rfl ?_
            clear hK a; intro a hK
            refine hd_take (i := 46) (d := 120) (v' := .bool (M15.last == v16.t.ts)) (vs := []) (obs := []) #[true, true, true, true, true, true, true, true, true, true, true, true, true, true, true, true, true, true, true, true, true, true, true, true, true, true, true, true, true, true, true, true, true, true, true, true, true, true, true, true, true, true, true, true, true, true, true, false, false, false, false, false, false, false, false, false, false, false, false] (by kernel_rfl) hK hS rfl (by kernel_rfl) (by kernel_rfl) (by kernel_rfl) (by kernel_rfl) (fun _ _ _ h => h) (fun _ => by kernel_rfl) (fun W hW => trivial) rfl rfl rfl ?_
            clear hK a; intro a hK
            have hd232 : ((M15.last == v16.t.ts)) = true := by rw [hlst]; exact beq_self_eq_true _
            replace hK := hK.sub (d := 120) (v' := .bool true) rfl (congrArg Value.bool hd232)
            refine hd_take (i := 47) (d := 121) (v' := .pointer (some ⟨g18, 2, none⟩)) (vs := []) (obs := []) #[true, true, true, true, true, true, true, true, true, true, true, true, true, true, true, true, true, true, true, true, true, true, true, true, true, true, true, true, true, true, true, true, true, true, true, true, true, true, true, true, true, true, true, true, true, true, true, true, false, false, false, false, false, false, false, false, false, false, false] (by kernel_rfl) hK hS rfl (by kernel_rfl) (by kernel_rfl) (by kernel_rfl) (by kernel_rfl) (fun _ _ _ h => h) (fun _ => by kernel_rfl) (fun W hW => trivial) rfl rfl rfl ?_
            clear hK a; intro a hK
            refine hd_take (i := 48) (d := 122) (v' := .slice M15.oa M15.op.length M15.oc) (vs := [.slice M15.oa M15.op.length M15.oc]) (obs := [(⟨g18, 2, none⟩, .slice M15.oa M15.op.length M15.oc)]) #[true, true, true, true, true, true, true, true, true, true, true, true, true, true, true, true, true, true, true, true, true, true, true, true, true, true, true, true, true, true, true, true, true, true, true, true, true, true, true, true, true, true, true, true, true, true, true, true, true, false, false, false, false, false, false, false, false, false, false] (by kernel_rfl) hK hS rfl (by kernel_rfl) (by kernel_rfl) (by kernel_rfl) (by kernel_rfl) (fun _ _ _ h => h) (fun _ => by kernel_rfl) (fun W hW => ⟨(((hE0.call hW).blk 4 rfl).cell 2).trans rfl, trivial⟩) rfl rfl rfl ?_
            clear hK a; intro a hK
            refine hd_take (i := 50) (d := 124) (v' := .pointer (some ⟨g1, 2, none⟩)) (vs := []) (obs := []) #[true, true, true, true, true, true, true, true, true, true, true, true, true, true, true, true, true, true, true, true, true, true, true, true, true, true, true, true, true, true, true, true, true, true, true, true, true, true, true, true, true, true, true, true, true, true, true, true, true, false, true, false, false, false, false, false, false, false, false] (by kernel_rfl) hK hS rfl (by kernel_rfl) (by kernel_rfl) (by kernel_rfl) (by kernel_rfl) (fun _ _ _ h => h) (fun _ => by kernel_rfl) (fun W hW => trivial) rfl rfl rfl ?_
            clear hK a; intro a hK
            refine hd_take (i := 51) (d := 125) (v' := .slice L.oa L.op.length L.oc) (vs := [.slice L.oa L.op.length L.oc]) (obs := [(⟨g1, 2, none⟩, .slice L.oa L.op.length L.oc)]) #[true, true, true, true, true, true, true, true, true, true, true, true, true, true, true, true, true, true, true, true, true, true, true, true, true, true, true, true, true, true, true, true, true, true, true, true, true, true, true, true, true, true, true, true, true, true, true, true, true, false, true, true, false, false, false, false, false, false, false] (by kernel_rfl) hK hS rfl (by kernel_rfl) (by kernel_rfl) (by kernel_rfl) (by kernel_rfl) (fun _ _ _ h => h) (fun _ => by kernel_rfl) (fun W hW => ⟨(((hE0.call hW).blk 9 rfl).cell 2).trans rfl, trivial⟩) rfl rfl rfl ?_
            clear hK a; intro a hK
            refine hd_take (i := 53) (d := 127) (v' := .agg #[.int .i64 v16.t.id, .int .i64 v16.t.ts, .slice v16.ra v16.t.reads.length v16.rc, .slice v16.wa v16.t.writes.length v16.wc]) (vs := [.int .i64 v16.t.id, .int .i64 v16.t.ts, .slice v16.ra v16.t.reads.length v16.rc, .slice v16.wa v16.t.writes.length v16.wc]) (obs := [(⟨g20, 0, none⟩, .int .i64 v16.t.id), (⟨g20, 1, none⟩, .int .i64 v16.t.ts), (⟨g20, 2, none⟩, .slice v16.ra v16.t.reads.length v16.rc), (⟨g20, 3, none⟩, .slice v16.wa v16.t.writes.length v16.wc)]) #[true, true, true, true, true, true, true, true, true, true, true, true, true, true, true, true, true, true, true, true, true, true, true, true, true, true, true, true, true, true, true, true, true, true, true, true, true, true, true, true, true, true, true, true, true, true, true, true, true, false, true, true, false, true, false, false, false, false, false] (by kernel_rfl) hK hS rfl (by kernel_rfl) (by kernel_rfl) (by kernel_rfl) (by kernel_rfl) (fun _ _ _ h => h) (fun _ => by kernel_rfl) (fun W hW => ⟨(((hE0.call hW).blk 3 rfl).cell 0).trans rfl, (((hE0.call hW).blk 3 rfl).cell 1).trans rfl, (((hE0.call hW).blk 3 rfl).cell 2).trans rfl, (((hE0.call hW).blk 3 rfl).cell 3).trans rfl, trivial⟩) rfl rfl rfl ?_
            clear hK a; intro a hK
            refine hd_all [49, 54] (by kernel_rfl) (by simp) ⟨?_, ?_, trivial⟩
            · refine hd_new (d := 123) (v := fun g => .slice (some ⟨g, 0, none⟩) 0 0) (cs := #[]) (t := 29) rfl hK hE hS rfl (fun _ _ => by kernel_rfl) rfl rfl ?_
              have hs_ := hS.size; clear hK hE hS a; intro a g233 w234 hS hg_ hK hE
              have hbg233 : w161.heap.size ≤ g233 := by omega
              clear hg_ hs_
              refine hd_all [52, 54] (by kernel_rfl) (by simp) ⟨?_, ?_, trivial⟩
              · replace hE := hE.own 0 4 0 rfl rfl (by simp only [maxLen]; omega) rfl
                obtain ⟨ti_, hti_, hz_, hm_, hby_⟩ := info_parts (show (Try.prog.info? 29).map (fun i => (i.zero, i.size, i.bytes)) = some (some (.agg #[.int .i64 0, .int .i64 0, .slice none 0 0, .slice none 0 0]), 4, 64) from by kernel_rfl)
                refine hd_ap (d := 126) (news := (L.op.flatMap TxV.cells)) (k2 := L.op.length) (xs2 := (L.op.flatMap TxV.cells)) 0 (Nat.zero_add _) (List.nil_append _) rfl hS hK hE rfl rfl (fun _ => rfl) (fun _ => rfl) Try.underlying23 hti_ hz_ hm_ hby_ rfl (by decide) rfl (fun g hg => by injection hg with hg; subst hg; exact hbg233) (by rw [flat_len TxV.cells 4 TxV.len]) (hE.get 11 rfl) (tx_one L.op) (by simp only [maxLen]; omega) (by omega) rfl rfl ?_
                clear hK hE a hS ti_ hti_ hz_ hm_ hby_; intro A235 c236 a w237 hl238 hm239 hS hr240 hK hev_
                have hE := hev_ _ rfl
                clear hev_
                refine hd_all [54] (by kernel_rfl) (by simp) ⟨?_, trivial⟩
                refine hd_new (d := 128) (v := fun g => .slice (some ⟨g, 0, none⟩) 1 1) (cs := #[.int .i64 v16.t.id, .int .i64 v16.t.ts, .slice v16.ra v16.t.reads.length v16.rc, .slice v16.wa v16.t.writes.length v16.wc]) (t := 29) rfl hK hE hS rfl (fun _ _ => by kernel_rfl) rfl rfl ?_
                have hs_ := hS.size; clear hK hE hS a; intro a g241 w242 hS hg_ hK hE
                have hbg241 : w161.heap.size ≤ g241 := by omega
                clear hg_ hs_
                refine hd_all [55] (by kernel_rfl) (by simp) ⟨?_, trivial⟩
                obtain ⟨ti_, hti_, hz_, hm_, hby_⟩ := info_parts (show (Try.prog.info? 29).map (fun i => (i.zero, i.size, i.bytes)) = some (some (.agg #[.int .i64 0, .int .i64 0, .slice none 0 0, .slice none 0 0]), 4, 64) from by kernel_rfl)
                refine hd_ap (d := 129) (news := [.int .i64 v16.t.id, .int .i64 v16.t.ts, .slice v16.ra v16.t.reads.length v16.rc, .slice v16.wa v16.t.writes.length v16.wc]) (k2 := (L.op ++ [v16]).length) (xs2 := ((L.op ++ [v16]).flatMap TxV.cells)) 1 (by simp) (by rw [List.flatMap_append]; first | done | rfl) rfl hS hK hE rfl rfl (fun _ => rfl) (fun _ => rfl) Try.underlying23 hti_ hz_ hm_ hby_ rfl (by decide) rfl hr240 (by rfl) (Rd.of_blk (hE.blk 0 rfl)) (List.all_eq_true.1 (by kernel_rfl : List.all [.int .i64 v16.t.id, .int .i64 v16.t.ts, .slice v16.ra v16.t.reads.length v16.rc, .slice v16.wa v16.t.writes.length v16.wc] Value.oneCell' = true)) (by simp only [maxLen]; omega) (by omega) rfl rfl ?_
                clear hK hE a hS ti_ hti_ hz_ hm_ hby_; intro A243 c244 a w245 hl246 hm247 hS hr248 hK hev_
                have hE := hev_ _ rfl
                clear hev_
                refine hd_all [56] (by kernel_rfl) (by simp) ⟨?_, trivial⟩
                refine hd_call (d := 130) (f := 21) (args := #[.slice M15.oa M15.op.length M15.oc, .slice A243 (L.op ++ [v16]).length c244]) rfl hK hS rfl (fun _ => by kernel_rfl) rfl rfl (rSameTxs_any M15.oa A243 M15.oc c244 M15.op (L.op ++ [v16]) _ hMl.1 hMl.2.2 (by simp; omega) (LdW.o (hE.get 3 rfl)) ⟨hE.rd 1 rfl, fun x hx => by rcases List.mem_append.1 hx with hx | hx; exact (LdW.o (hE.get 14 rfl)).each x hx; obtain rfl : x = v16 := (by simpa using hx); exact (hE.get 2 rfl)⟩) ?_
                rintro e w249 ⟨rfl, hb⟩
                refine ⟨_, rfl, hb, ?_⟩
                clear hK a hS; intro a hK hS
                replace hE := hE.call hb
                clear hb
                refine hd_take (i := 57) (d := 131) (v' := .bool (decide (txs M15.op = txs (L.op ++ [v16])))) (vs := []) (obs := []) #[true, true, true, true, true, true, true, true, true, true, true, true, true, true, true, true, true, true, true, true, true, true, true, true, true, true, true, true, true, true, true, true, true, true, true, true, true, true, true, true, true, true, true, true, true, true, true, true, true, true, true, true, true, true, true, true, true, true, false] (by kernel_rfl) hK hS rfl (by kernel_rfl) (by kernel_rfl) (by kernel_rfl) (by kernel_rfl) (fun _ _ _ h => h) (fun _ => by kernel_rfl) (fun W hW => trivial) rfl rfl rfl ?_
                clear hK a; intro a hK
                refine hd_take (i := 58) (d := 8) (v' := .bool (decide (txs M15.op = txs (L.op ++ [v16])))) (vs := []) (obs := []) #[true, true, true, true, true, true, true, true, true, true, true, true, true, true, true, true, true, true, true, true, true, true, true, true, true, true, true, true, true, true, true, true, true, true, true, true, true, true, true, true, true, true, true, true, true, true, true, true, true, true, true, true, true, true, true, true, true, true, true] (by kernel_rfl) hK hS rfl (by kernel_rfl) (by kernel_rfl) (by kernel_rfl) (by kernel_rfl) (fun _ _ _ h => h) (fun _ => by kernel_rfl) (fun W hW => trivial) rfl rfl rfl ?_
                clear hK a; intro a hK
                refine hd_done (by kernel_rfl) ?_ _
                clear hE0 hS
                replace hK := hK.weak (K' := [(8, .bool (decide (txs M15.op = txs (L.op ++ [v16]))))]) ⟨rfl, trivial⟩
                refine xt_norm ?_
                refine wp_ret ?_
                have hd250 : (decide (txs M15.op = txs (L.op ++ [v16]))) = true := decide_eq_true (by rw [hopM]; simp [txs, LdV.d])
                replace hK := hK.sub (d := 8) (v' := .bool true) rfl (congrArg Value.bool hd250)
                refine vc_ret (v' := .bool true) (vs := []) (obs := []) hK (fun _ => by kernel_rfl) trivial rfl ?_
                exact ⟨rfl, hE.b⟩
              · refine hd_new (d := 128) (v := fun g => .slice (some ⟨g, 0, none⟩) 1 1) (cs := #[.int .i64 v16.t.id, .int .i64 v16.t.ts, .slice v16.ra v16.t.reads.length v16.rc, .slice v16.wa v16.t.writes.length v16.wc]) (t := 29) rfl hK hE hS rfl (fun _ _ => by kernel_rfl) rfl rfl ?_
                have hs_ := hS.size; clear hK hE hS a; intro a g251 w252 hS hg_ hK hE
                have hbg251 : w161.heap.size ≤ g251 := by omega
                clear hg_ hs_
                refine hd_all [52] (by kernel_rfl) (by simp) ⟨?_, trivial⟩
                replace hE := hE.own 1 4 0 rfl rfl (by simp only [maxLen]; omega) rfl
                obtain ⟨ti_, hti_, hz_, hm_, hby_⟩ := info_parts (show (Try.prog.info? 29).map (fun i => (i.zero, i.size, i.bytes)) = some (some (.agg #[.int .i64 0, .int .i64 0, .slice none 0 0, .slice none 0 0]), 4, 64) from by kernel_rfl)
                refine hd_ap (d := 126) (news := (L.op.flatMap TxV.cells)) (k2 := L.op.length) (xs2 := (L.op.flatMap TxV.cells)) 1 (Nat.zero_add _) (List.nil_append _) rfl hS hK hE rfl rfl (fun _ => rfl) (fun _ => rfl) Try.underlying23 hti_ hz_ hm_ hby_ rfl (by decide) rfl (fun g hg => by injection hg with hg; subst hg; exact hbg233) (by rw [flat_len TxV.cells 4 TxV.len]) (hE.get 12 rfl) (tx_one L.op) (by simp only [maxLen]; omega) (by omega) rfl rfl ?_
                clear hK hE a hS ti_ hti_ hz_ hm_ hby_; intro A253 c254 a w255 hl256 hm257 hS hr258 hK hev_
                have hE := hev_ _ rfl
                clear hev_
                refine hd_all [55] (by kernel_rfl) (by simp) ⟨?_, trivial⟩
                obtain ⟨ti_, hti_, hz_, hm_, hby_⟩ := info_parts (show (Try.prog.info? 29).map (fun i => (i.zero, i.size, i.bytes)) = some (some (.agg #[.int .i64 0, .int .i64 0, .slice none 0 0, .slice none 0 0]), 4, 64) from by kernel_rfl)
                refine hd_ap (d := 129) (news := [.int .i64 v16.t.id, .int .i64 v16.t.ts, .slice v16.ra v16.t.reads.length v16.rc, .slice v16.wa v16.t.writes.length v16.wc]) (k2 := (L.op ++ [v16]).length) (xs2 := ((L.op ++ [v16]).flatMap TxV.cells)) 1 (by simp) (by rw [List.flatMap_append]; first | done | rfl) rfl hS hK hE rfl rfl (fun _ => rfl) (fun _ => rfl) Try.underlying23 hti_ hz_ hm_ hby_ rfl (by decide) rfl hr258 (by rfl) (Rd.of_blk (hE.blk 0 rfl)) (List.all_eq_true.1 (by kernel_rfl : List.all [.int .i64 v16.t.id, .int .i64 v16.t.ts, .slice v16.ra v16.t.reads.length v16.rc, .slice v16.wa v16.t.writes.length v16.wc] Value.oneCell' = true)) (by simp only [maxLen]; omega) (by omega) rfl rfl ?_
                clear hK hE a hS ti_ hti_ hz_ hm_ hby_; intro A259 c260 a w261 hl262 hm263 hS hr264 hK hev_
                have hE := hev_ _ rfl
                clear hev_
                refine hd_all [56] (by kernel_rfl) (by simp) ⟨?_, trivial⟩
                refine hd_call (d := 130) (f := 21) (args := #[.slice M15.oa M15.op.length M15.oc, .slice A259 (L.op ++ [v16]).length c260]) rfl hK hS rfl (fun _ => by kernel_rfl) rfl rfl (rSameTxs_any M15.oa A259 M15.oc c260 M15.op (L.op ++ [v16]) _ hMl.1 hMl.2.2 (by simp; omega) (LdW.o (hE.get 3 rfl)) ⟨hE.rd 1 rfl, fun x hx => by rcases List.mem_append.1 hx with hx | hx; exact (LdW.o (hE.get 14 rfl)).each x hx; obtain rfl : x = v16 := (by simpa using hx); exact (hE.get 2 rfl)⟩) ?_
                rintro e w265 ⟨rfl, hb⟩
                refine ⟨_, rfl, hb, ?_⟩
                clear hK a hS; intro a hK hS
                replace hE := hE.call hb
                clear hb
                refine hd_take (i := 57) (d := 131) (v' := .bool (decide (txs M15.op = txs (L.op ++ [v16])))) (vs := []) (obs := []) #[true, true, true, true, true, true, true, true, true, true, true, true, true, true, true, true, true, true, true, true, true, true, true, true, true, true, true, true, true, true, true, true, true, true, true, true, true, true, true, true, true, true, true, true, true, true, true, true, true, true, true, true, true, true, true, true, true, true, false] (by kernel_rfl) hK hS rfl (by kernel_rfl) (by kernel_rfl) (by kernel_rfl) (by kernel_rfl) (fun _ _ _ h => h) (fun _ => by kernel_rfl) (fun W hW => trivial) rfl rfl rfl ?_
                clear hK a; intro a hK
                refine hd_take (i := 58) (d := 8) (v' := .bool (decide (txs M15.op = txs (L.op ++ [v16])))) (vs := []) (obs := []) #[true, true, true, true, true, true, true, true, true, true, true, true, true, true, true, true, true, true, true, true, true, true, true, true, true, true, true, true, true, true, true, true, true, true, true, true, true, true, true, true, true, true, true, true, true, true, true, true, true, true, true, true, true, true, true, true, true, true, true] (by kernel_rfl) hK hS rfl (by kernel_rfl) (by kernel_rfl) (by kernel_rfl) (by kernel_rfl) (fun _ _ _ h => h) (fun _ => by kernel_rfl) (fun W hW => trivial) rfl rfl rfl ?_
                clear hK a; intro a hK
                refine hd_done (by kernel_rfl) ?_ _
                clear hE0 hS
                replace hK := hK.weak (K' := [(8, .bool (decide (txs M15.op = txs (L.op ++ [v16]))))]) ⟨rfl, trivial⟩
                refine xt_norm ?_
                refine wp_ret ?_
                have hd266 : (decide (txs M15.op = txs (L.op ++ [v16]))) = true := decide_eq_true (by rw [hopM]; simp [txs, LdV.d])
                replace hK := hK.sub (d := 8) (v' := .bool true) rfl (congrArg Value.bool hd266)
                refine vc_ret (v' := .bool true) (vs := []) (obs := []) hK (fun _ => by kernel_rfl) trivial rfl ?_
                exact ⟨rfl, hE.b⟩
            · refine hd_new (d := 128) (v := fun g => .slice (some ⟨g, 0, none⟩) 1 1) (cs := #[.int .i64 v16.t.id, .int .i64 v16.t.ts, .slice v16.ra v16.t.reads.length v16.rc, .slice v16.wa v16.t.writes.length v16.wc]) (t := 29) rfl hK hE hS rfl (fun _ _ => by kernel_rfl) rfl rfl ?_
              have hs_ := hS.size; clear hK hE hS a; intro a g267 w268 hS hg_ hK hE
              have hbg267 : w161.heap.size ≤ g267 := by omega
              clear hg_ hs_
              refine hd_all [49] (by kernel_rfl) (by simp) ⟨?_, trivial⟩
              refine hd_new (d := 123) (v := fun g => .slice (some ⟨g, 0, none⟩) 0 0) (cs := #[]) (t := 29) rfl hK hE hS rfl (fun _ _ => by kernel_rfl) rfl rfl ?_
              have hs_ := hS.size; clear hK hE hS a; intro a g269 w270 hS hg_ hK hE
              have hbg269 : w161.heap.size ≤ g269 := by omega
              clear hg_ hs_
              refine hd_all [52] (by kernel_rfl) (by simp) ⟨?_, trivial⟩
              replace hE := hE.own 0 4 0 rfl rfl (by simp only [maxLen]; omega) rfl
              obtain ⟨ti_, hti_, hz_, hm_, hby_⟩ := info_parts (show (Try.prog.info? 29).map (fun i => (i.zero, i.size, i.bytes)) = some (some (.agg #[.int .i64 0, .int .i64 0, .slice none 0 0, .slice none 0 0]), 4, 64) from by kernel_rfl)
              refine hd_ap (d := 126) (news := (L.op.flatMap TxV.cells)) (k2 := L.op.length) (xs2 := (L.op.flatMap TxV.cells)) 0 (Nat.zero_add _) (List.nil_append _) rfl hS hK hE rfl rfl (fun _ => rfl) (fun _ => rfl) Try.underlying23 hti_ hz_ hm_ hby_ rfl (by decide) rfl (fun g hg => by injection hg with hg; subst hg; exact hbg269) (by rw [flat_len TxV.cells 4 TxV.len]) (hE.get 12 rfl) (tx_one L.op) (by simp only [maxLen]; omega) (by omega) rfl rfl ?_
              clear hK hE a hS ti_ hti_ hz_ hm_ hby_; intro A271 c272 a w273 hl274 hm275 hS hr276 hK hev_
              have hE := hev_ _ rfl
              clear hev_
              refine hd_all [55] (by kernel_rfl) (by simp) ⟨?_, trivial⟩
              obtain ⟨ti_, hti_, hz_, hm_, hby_⟩ := info_parts (show (Try.prog.info? 29).map (fun i => (i.zero, i.size, i.bytes)) = some (some (.agg #[.int .i64 0, .int .i64 0, .slice none 0 0, .slice none 0 0]), 4, 64) from by kernel_rfl)
              refine hd_ap (d := 129) (news := [.int .i64 v16.t.id, .int .i64 v16.t.ts, .slice v16.ra v16.t.reads.length v16.rc, .slice v16.wa v16.t.writes.length v16.wc]) (k2 := (L.op ++ [v16]).length) (xs2 := ((L.op ++ [v16]).flatMap TxV.cells)) 0 (by simp) (by rw [List.flatMap_append]; first | done | rfl) rfl hS hK hE rfl rfl (fun _ => rfl) (fun _ => rfl) Try.underlying23 hti_ hz_ hm_ hby_ rfl (by decide) rfl hr276 (by rfl) (Rd.of_blk (hE.blk 1 rfl)) (List.all_eq_true.1 (by kernel_rfl : List.all [.int .i64 v16.t.id, .int .i64 v16.t.ts, .slice v16.ra v16.t.reads.length v16.rc, .slice v16.wa v16.t.writes.length v16.wc] Value.oneCell' = true)) (by simp only [maxLen]; omega) (by omega) rfl rfl ?_
              clear hK hE a hS ti_ hti_ hz_ hm_ hby_; intro A277 c278 a w279 hl280 hm281 hS hr282 hK hev_
              have hE := hev_ _ rfl
              clear hev_
              refine hd_all [56] (by kernel_rfl) (by simp) ⟨?_, trivial⟩
              refine hd_call (d := 130) (f := 21) (args := #[.slice M15.oa M15.op.length M15.oc, .slice A277 (L.op ++ [v16]).length c278]) rfl hK hS rfl (fun _ => by kernel_rfl) rfl rfl (rSameTxs_any M15.oa A277 M15.oc c278 M15.op (L.op ++ [v16]) _ hMl.1 hMl.2.2 (by simp; omega) (LdW.o (hE.get 3 rfl)) ⟨hE.rd 0 rfl, fun x hx => by rcases List.mem_append.1 hx with hx | hx; exact (LdW.o (hE.get 14 rfl)).each x hx; obtain rfl : x = v16 := (by simpa using hx); exact (hE.get 2 rfl)⟩) ?_
              rintro e w283 ⟨rfl, hb⟩
              refine ⟨_, rfl, hb, ?_⟩
              clear hK a hS; intro a hK hS
              replace hE := hE.call hb
              clear hb
              refine hd_take (i := 57) (d := 131) (v' := .bool (decide (txs M15.op = txs (L.op ++ [v16])))) (vs := []) (obs := []) #[true, true, true, true, true, true, true, true, true, true, true, true, true, true, true, true, true, true, true, true, true, true, true, true, true, true, true, true, true, true, true, true, true, true, true, true, true, true, true, true, true, true, true, true, true, true, true, true, true, true, true, true, true, true, true, true, true, true, false] (by kernel_rfl) hK hS rfl (by kernel_rfl) (by kernel_rfl) (by kernel_rfl) (by kernel_rfl) (fun _ _ _ h => h) (fun _ => by kernel_rfl) (fun W hW => trivial) rfl rfl rfl ?_
              clear hK a; intro a hK
              refine hd_take (i := 58) (d := 8) (v' := .bool (decide (txs M15.op = txs (L.op ++ [v16])))) (vs := []) (obs := []) #[true, true, true, true, true, true, true, true, true, true, true, true, true, true, true, true, true, true, true, true, true, true, true, true, true, true, true, true, true, true, true, true, true, true, true, true, true, true, true, true, true, true, true, true, true, true, true, true, true, true, true, true, true, true, true, true, true, true, true] (by kernel_rfl) hK hS rfl (by kernel_rfl) (by kernel_rfl) (by kernel_rfl) (by kernel_rfl) (fun _ _ _ h => h) (fun _ => by kernel_rfl) (fun W hW => trivial) rfl rfl rfl ?_
              clear hK a; intro a hK
              refine hd_done (by kernel_rfl) ?_ _
              clear hE0 hS
              replace hK := hK.weak (K' := [(8, .bool (decide (txs M15.op = txs (L.op ++ [v16]))))]) ⟨rfl, trivial⟩
              refine xt_norm ?_
              refine wp_ret ?_
              have hd284 : (decide (txs M15.op = txs (L.op ++ [v16]))) = true := decide_eq_true (by rw [hopM]; simp [txs, LdV.d])
              replace hK := hK.sub (d := 8) (v' := .bool true) rfl (congrArg Value.bool hd284)
              refine vc_ret (v' := .bool true) (vs := []) (obs := []) hK (fun _ => by kernel_rfl) trivial rfl ?_
              exact ⟨rfl, hE.b⟩
      · have hc24p := ne_of_beq_false hc24
        have hba := stamp_bad (fun e => hc24p e)
        have hz1 : v16.t.ts = 0 := by rw [hv15, hba.2]; rfl
        have hz2 : M15.last = 0 := by rw [last_of hM15, hba.1]; rfl
        replace hK := hK.sub (d := 36) (v' := .bool true) rfl (congrArg (fun b => Value.bool !b) hc24)
        refine vc_cond (t := true) hK (fun _ => rfl) ?_
        rw [if_pos rfl]
        refine wp_seq ?_
        refine wp_region_lit ?_
        refine st_op (d := 37) (v' := .bool true) (vs := []) (obs := []) hK rfl (fun _ => by kernel_rfl) trivial rfl rfl rfl ?_
        clear hK a; intro a hK
        refine st_op (d := 38) (v' := .bool true) (vs := []) (obs := []) hK rfl (fun _ => by kernel_rfl) trivial rfl rfl rfl ?_
        clear hK a; intro a hK
        refine st_op (d := 39) (v' := .pointer (some ⟨g20, 1, none⟩)) (vs := []) (obs := []) hK rfl (fun _ => by kernel_rfl) trivial rfl rfl rfl ?_
        clear hK a; intro a hK
        refine st_op (d := 40) (v' := .int .i64 v16.t.ts) (vs := [.int .i64 v16.t.ts]) (obs := [(⟨g20, 1, none⟩, .int .i64 v16.t.ts)]) hK rfl (fun _ => by kernel_rfl) ⟨((hE.blk 0 rfl).cell 1).trans rfl, trivial⟩ rfl rfl rfl ?_
        clear hK a; intro a hK
        refine st_op (d := 41) (v' := .bool (v16.t.ts == 0)) (vs := []) (obs := []) hK rfl (fun _ => by kernel_rfl) trivial rfl rfl rfl ?_
        clear hK a; intro a hK
        refine st_op (d := 42) (v' := .bool (v16.t.ts == 0)) (vs := []) (obs := []) hK rfl (fun _ => by kernel_rfl) trivial rfl rfl rfl ?_
        clear hK a; intro a hK
        refine st_op (d := 43) (v' := .bool (v16.t.ts == 0)) (vs := []) (obs := []) hK rfl (fun _ => by kernel_rfl) trivial rfl rfl rfl ?_
        clear hK a; intro a hK
        have hd285 : ((v16.t.ts == 0)) = true := by rw [hz1]; rfl
        replace hK := hK.sub (d := 43) (v' := .bool true) rfl (congrArg Value.bool hd285)
        refine st_op (d := 44) (v' := .pointer (some ⟨g18, 0, none⟩)) (vs := []) (obs := []) hK rfl (fun _ => by kernel_rfl) trivial rfl rfl rfl ?_
        clear hK a; intro a hK
        refine st_op (d := 45) (v' := .int .i64 M15.last) (vs := [.int .i64 M15.last]) (obs := [(⟨g18, 0, none⟩, .int .i64 M15.last)]) hK rfl (fun _ => by kernel_rfl) ⟨((hE.blk 1 rfl).cell 0).trans rfl, trivial⟩ rfl rfl rfl ?_
        clear hK a; intro a hK
        refine st_op (d := 46) (v' := .bool (M15.last == 0)) (vs := []) (obs := []) hK rfl (fun _ => by kernel_rfl) trivial rfl rfl rfl ?_
        clear hK a; intro a hK
        refine st_op (d := 47) (v' := .bool (M15.last == 0)) (vs := []) (obs := []) hK rfl (fun _ => by kernel_rfl) trivial rfl rfl rfl ?_
        clear hK a; intro a hK
        refine st_op (d := 8) (v' := .bool (M15.last == 0)) (vs := []) (obs := []) hK rfl (fun _ => by kernel_rfl) trivial rfl rfl rfl ?_
        clear hK a; intro a hK
        refine wpList_nil ?_
        refine xt_norm ?_
        refine wp_ret ?_
        refine xt_ret ?_
        have hd286 : ((M15.last == 0)) = true := by rw [hz2]; rfl
        replace hK := hK.sub (d := 8) (v' := .bool true) rfl (congrArg Value.bool hd286)
        refine vc_ret (v' := .bool true) (vs := []) (obs := []) hK (fun _ => by kernel_rfl) trivial rfl ?_
        exact ⟨rfl, hE.b⟩
    · replace hK := hK.sub (d := 25) (v' := .bool true) rfl (congrArg (fun b => Value.bool !b) hc14)
      refine vc_cond (t := true) hK (fun _ => rfl) ?_
      rw [if_pos rfl]
      refine wp_seq ?_
      refine wp_region_lit ?_
      refine st_op (d := 26) (v' := .bool true) (vs := []) (obs := []) hK rfl (fun _ => by kernel_rfl) trivial rfl rfl rfl ?_
      clear hK a; intro a hK
      refine st_op (d := 8) (v' := .bool true) (vs := []) (obs := []) hK rfl (fun _ => by kernel_rfl) trivial rfl rfl rfl ?_
      clear hK a; intro a hK
      refine wpList_nil ?_
      refine xt_norm ?_
      refine wp_ret ?_
      refine xt_ret ?_
      refine vc_ret (v' := .bool true) (vs := []) (obs := []) hK (fun _ => by kernel_rfl) trivial rfl ?_
      exact ⟨rfl, hE.b⟩
  · replace hK := hK.sub (d := 20) (v' := .bool true) rfl (congrArg (fun b => Value.bool !b) hc11)
    refine st_skip (d := 21) hK rfl rfl rfl ?_
    clear hK a; intro a hK
    refine st_skip (d := 22) hK rfl rfl rfl ?_
    clear hK a; intro a hK
    refine st_skip (d := 23) hK rfl rfl rfl ?_
    clear hK a; intro a hK
    refine st_skip (d := 24) hK rfl rfl rfl ?_
    clear hK a; intro a hK
    refine st_op (d := 25) (v' := .bool true) (vs := []) (obs := []) hK rfl (fun _ => by kernel_rfl) trivial rfl rfl rfl ?_
    clear hK a; intro a hK
    refine wpList_nil ?_
    refine xt_norm ?_
    refine vc_cond (t := true) hK (fun _ => rfl) ?_
    rw [if_pos rfl]
    refine wp_seq ?_
    refine wp_region_lit ?_
    refine st_op (d := 26) (v' := .bool true) (vs := []) (obs := []) hK rfl (fun _ => by kernel_rfl) trivial rfl rfl rfl ?_
    clear hK a; intro a hK
    refine st_op (d := 8) (v' := .bool true) (vs := []) (obs := []) hK rfl (fun _ => by kernel_rfl) trivial rfl rfl rfl ?_
    clear hK a; intro a hK
    refine wpList_nil ?_
    refine xt_norm ?_
    refine wp_ret ?_
    refine xt_ret ?_
    refine vc_ret (v' := .bool true) (vs := []) (obs := []) hK (fun _ => by kernel_rfl) trivial rfl ?_
    exact ⟨rfl, hE.b⟩
end Go.Proofs.Ytcofkflihleckaa
