/-
  The walk of the law CommitStable, where the stamp goes well.
-/
import Derived.Test.YtcofkflihleckaaPr34
import Derived.Test.YtcofkflihleckaaVc
namespace Go.Proofs.Ytcofkflihleckaa
open Go.RowKit Go.Maps
set_option maxRecDepth 100000 in
set_option maxHeartbeats 16000000 in
theorem stable_true (L : LdV) (t : TxV) (key ts at_ la lb l0 l1 l2 r0 r1 r2 : Int) (w : World) (h : LdW w L) (h' : TxW w t) (hcase : ((stampS L.d t.t (aroundS (IntKind.i64.wrap (at_ + la)) l1 r1).1.1 (aroundS (IntKind.i64.wrap (at_ + la)) l1 r1).1.2).2.2 == 0) = true) : Calls Try.prog 6 #[.agg #[.int .i64 L.last, .slice L.sa L.st.length L.sc, .slice L.oa L.op.length L.oc], .int .i64 key, .int .i64 ts, .agg #[.int .i64 t.t.id, .int .i64 t.t.ts, .slice t.ra t.t.reads.length t.rc, .slice t.wa t.t.writes.length t.wc], .int .i64 at_, .agg #[.int .i64 la, .int .i64 lb], .agg #[.int .i64 l0, .int .i64 l1, .int .i64 l2], .agg #[.int .i64 r0, .int .i64 r1, .int .i64 r2]] w fun e w' => e = .returned (.bool true) ∧ Below w.heap.size w w' := by
  refine vc_enter (n := 252) Try.func6 rfl rfl rfl (fun a hK => ?_)
  replace hK := hK.weak (K' := [(0, .agg #[.int .i64 L.last, .slice L.sa L.st.length L.sc, .slice L.oa L.op.length L.oc]), (1, .int .i64 key), (2, .int .i64 ts), (3, .agg #[.int .i64 t.t.id, .int .i64 t.t.ts, .slice t.ra t.t.reads.length t.rc, .slice t.wa t.t.writes.length t.wc]), (4, .int .i64 at_), (5, .agg #[.int .i64 la, .int .i64 lb]), (6, .agg #[.int .i64 l0, .int .i64 l1, .int .i64 l2]), (7, .agg #[.int .i64 r0, .int .i64 r1, .int .i64 r2])]) ⟨rfl, rfl, rfl, rfl, rfl, rfl, rfl, rfl, trivial⟩
  have hE := Ev.start w
  replace hE := hE.dat (p := fun W => LdW W L) (fun W hW => LdW.then_ h hW)
  replace hE := hE.dat (p := fun W => TxW W t) (fun W hW => TxW.then_ h' hW)
  refine wp_seq ?_
  refine wp_region_lit ?_
  refine st_new (d := 8) (v := fun g => .pointer (some ⟨g, 0, none⟩)) (cs := #[.int .i64 L.last, .slice L.sa L.st.length L.sc, .slice L.oa L.op.length L.oc]) (t := 25) hK hE rfl (fun _ _ => by kernel_rfl) rfl rfl ?_
  clear hK hE a; intro a g1 w2 _ _ hK hE
  refine st_new (d := 11) (v := fun g => .pointer (some ⟨g, 0, none⟩)) (cs := #[.int .i64 t.t.id, .int .i64 t.t.ts, .slice t.ra t.t.reads.length t.rc, .slice t.wa t.t.writes.length t.wc]) (t := 29) hK hE rfl (fun _ _ => by kernel_rfl) rfl rfl ?_
  clear hK hE a; intro a g3 w4 _ _ hK hE
  refine st_new (d := 13) (v := fun g => .pointer (some ⟨g, 0, none⟩)) (cs := #[.int .i64 la, .int .i64 lb]) (t := 51) hK hE rfl (fun _ _ => by kernel_rfl) rfl rfl ?_
  clear hK hE a; intro a g5 w6 _ _ hK hE
  refine st_new (d := 14) (v := fun g => .pointer (some ⟨g, 0, none⟩)) (cs := #[.int .i64 l0, .int .i64 l1, .int .i64 l2]) (t := 56) hK hE rfl (fun _ _ => by kernel_rfl) rfl rfl ?_
  clear hK hE a; intro a g7 w8 _ _ hK hE
  refine st_new (d := 15) (v := fun g => .pointer (some ⟨g, 0, none⟩)) (cs := #[.int .i64 r0, .int .i64 r1, .int .i64 r2]) (t := 56) hK hE rfl (fun _ _ => by kernel_rfl) rfl rfl ?_
  clear hK hE a; intro a g9 w10 _ _ hK hE
  refine st_op (d := 16) (v' := .bool false) (vs := []) (obs := []) hK rfl (fun _ => by kernel_rfl) trivial rfl rfl rfl ?_
  clear hK a; intro a hK
  refine wpList_nil ?_
  refine xt_norm ?_
  refine wp_seq ?_
  refine wp_region_lit ?_
  refine st_call (d := 41) (f := 10) (args := #[]) hK rfl (fun _ => by kernel_rfl) rfl rfl (head34_any _) ?_
  rintro e w11 ⟨rfl, hb⟩
  refine ⟨_, rfl, ?_⟩
  clear hK a; intro a hK
  replace hE := hE.call hb
  clear hb
  refine st_op (d := 17) (v' := .bool true) (vs := []) (obs := []) hK rfl (fun _ => by kernel_rfl) trivial rfl rfl rfl ?_
  clear hK a; intro a hK
  refine wpList_nil ?_
  refine xt_norm ?_
  refine wp_seq ?_
  refine wp_seq ?_
  refine wp_region_lit ?_
  refine st_op (d := 42) (v' := .agg #[.int .i64 L.last, .slice L.sa L.st.length L.sc, .slice L.oa L.op.length L.oc]) (vs := [.int .i64 L.last, .slice L.sa L.st.length L.sc, .slice L.oa L.op.length L.oc]) (obs := [(⟨g1, 0, none⟩, .int .i64 L.last), (⟨g1, 1, none⟩, .slice L.sa L.st.length L.sc), (⟨g1, 2, none⟩, .slice L.oa L.op.length L.oc)]) hK rfl (fun _ => by kernel_rfl) ⟨((hE.blk 4 rfl).cell 0).trans rfl, ((hE.blk 4 rfl).cell 1).trans rfl, ((hE.blk 4 rfl).cell 2).trans rfl, trivial⟩ rfl rfl rfl ?_
  clear hK a; intro a hK
  refine st_call (d := 43) (f := 26) (args := #[.agg #[.int .i64 L.last, .slice L.sa L.st.length L.sc, .slice L.oa L.op.length L.oc]]) hK rfl (fun _ => by kernel_rfl) rfl rfl (usable_any L _ (hE.get 6 rfl)) ?_
  rintro e w12 ⟨rfl, hb⟩
  refine ⟨_, rfl, ?_⟩
  clear hK a; intro a hK
  replace hE := hE.call hb
  clear hb
  refine st_op (d := 44) (v' := .bool (!(fewLB L.d && L.ok))) (vs := []) (obs := []) hK rfl (fun _ => by kernel_rfl) trivial rfl rfl rfl ?_
  clear hK a; intro a hK
  refine st_op (d := 45) (v' := .bool (!(fewLB L.d && L.ok))) (vs := []) (obs := []) hK rfl (fun _ => by kernel_rfl) trivial rfl rfl rfl ?_
  clear hK a; intro a hK
  rcases Bool.eq_false_or_eq_true (fewLB L.d && L.ok) with hc13 | hc13
  · have hus_ := (Bool.and_eq_true _ _).mp hc13
    have hfew := hus_.1; have hok := hus_.2; have hLS := few_S hfew; have hbd := lead_bd hok; clear hus_
    have hfs := few_small hfew
    have hol : L.op.length ≤ 30 := by have := hfs.2.2; rw [show L.d.op.length = L.op.length from txs_len _] at this; exact this
    replace hK := hK.sub (d := 45) (v' := .bool false) rfl (congrArg (fun b => Value.bool !b) hc13)
    refine st_op (d := 46) (v' := .agg #[.int .i64 t.t.id, .int .i64 t.t.ts, .slice t.ra t.t.reads.length t.rc, .slice t.wa t.t.writes.length t.wc]) (vs := [.int .i64 t.t.id, .int .i64 t.t.ts, .slice t.ra t.t.reads.length t.rc, .slice t.wa t.t.writes.length t.wc]) (obs := [(⟨g3, 0, none⟩, .int .i64 t.t.id), (⟨g3, 1, none⟩, .int .i64 t.t.ts), (⟨g3, 2, none⟩, .slice t.ra t.t.reads.length t.rc), (⟨g3, 3, none⟩, .slice t.wa t.t.writes.length t.wc)]) hK rfl (fun _ => by kernel_rfl) ⟨((hE.blk 3 rfl).cell 0).trans rfl, ((hE.blk 3 rfl).cell 1).trans rfl, ((hE.blk 3 rfl).cell 2).trans rfl, ((hE.blk 3 rfl).cell 3).trans rfl, trivial⟩ rfl rfl rfl ?_
    clear hK a; intro a hK
    refine st_new (d := 47) (v := fun g => .slice (some ⟨g, 0, none⟩) 1 1) (cs := #[.int .i64 t.t.id, .int .i64 t.t.ts, .slice t.ra t.t.reads.length t.rc, .slice t.wa t.t.writes.length t.wc]) (t := 29) hK hE rfl (fun _ _ => by kernel_rfl) rfl rfl ?_
    clear hK hE a; intro a g14 w15 _ _ hK hE
    refine st_call (d := 48) (f := 12) (args := #[.slice (some ⟨g14, 0, none⟩) 1 1]) hK rfl (fun _ => by kernel_rfl) rfl rfl (fewTxs_any (some ⟨g14, 0, none⟩) 1 [t] _ (Nat.le_refl _) (by simp [maxLen]) ⟨by have hh := Rd.of_blk (hE.blk 0 rfl); exact hh, fun x hx => by obtain rfl : x = t := (by simpa using hx); exact (hE.get 6 rfl)⟩) ?_
    rintro e _ ⟨rfl, rfl⟩
    refine ⟨_, rfl, ?_⟩
    clear hK a; intro a hK
    refine st_op (d := 49) (v' := .bool (!(fewTB (txs [t])))) (vs := []) (obs := []) hK rfl (fun _ => by kernel_rfl) trivial rfl rfl rfl ?_
    clear hK a; intro a hK
    refine st_op (d := 50) (v' := .bool (!(fewTB (txs [t])))) (vs := []) (obs := []) hK rfl (fun _ => by kernel_rfl) trivial rfl rfl rfl ?_
    clear hK a; intro a hK
    refine st_op (d := 51) (v' := .bool (!(fewTB (txs [t])))) (vs := []) (obs := []) hK rfl (fun _ => by kernel_rfl) trivial rfl rfl rfl ?_
    clear hK a; intro a hK
    rcases Bool.eq_false_or_eq_true (fewTB (txs [t])) with hc16 | hc16
    · have hv20t := fewT_small (t := t.t) hc16
      have hsmt : t.t.reads.length ≤ 100 ∧ t.t.writes.length ≤ 100 := by omega
      replace hK := hK.sub (d := 51) (v' := .bool false) rfl (congrArg (fun b => Value.bool !b) hc16)
      refine st_op (d := 52) (v' := .pointer (some ⟨g5, 0, none⟩)) (vs := []) (obs := []) hK rfl (fun _ => by kernel_rfl) trivial rfl rfl rfl ?_
      clear hK a; intro a hK
      refine st_op (d := 53) (v' := .int .i64 la) (vs := [.int .i64 la]) (obs := [(⟨g5, 0, none⟩, .int .i64 la)]) hK rfl (fun _ => by kernel_rfl) ⟨((hE.blk 3 rfl).cell 0).trans rfl, trivial⟩ rfl rfl rfl ?_
      clear hK a; intro a hK
      refine st_op (d := 54) (v' := .bool (decide (la < 0))) (vs := []) (obs := []) hK rfl (fun _ => by kernel_rfl) trivial rfl rfl rfl ?_
      clear hK a; intro a hK
      refine st_op (d := 55) (v' := .bool (decide (la < 0))) (vs := []) (obs := []) hK rfl (fun _ => by kernel_rfl) trivial rfl rfl rfl ?_
      clear hK a; intro a hK
      refine st_op (d := 56) (v' := .bool (decide (la < 0))) (vs := []) (obs := []) hK rfl (fun _ => by kernel_rfl) trivial rfl rfl rfl ?_
      clear hK a; intro a hK
      rcases Bool.eq_false_or_eq_true (decide (la < 0)) with hc17 | hc17
      · have hc17p := of_decide_eq_true hc17
        replace hK := hK.sub (d := 56) (v' := .bool true) rfl (congrArg Value.bool hc17)
        refine st_skip (d := 57) hK rfl rfl rfl ?_
        clear hK a; intro a hK
        refine st_skip (d := 58) hK rfl rfl rfl ?_
        clear hK a; intro a hK
        refine st_skip (d := 59) hK rfl rfl rfl ?_
        clear hK a; intro a hK
        refine st_op (d := 60) (v' := .bool true) (vs := []) (obs := []) hK rfl (fun _ => by kernel_rfl) trivial rfl rfl rfl ?_
        clear hK a; intro a hK
        refine st_op (d := 61) (v' := .bool true) (vs := []) (obs := []) hK rfl (fun _ => by kernel_rfl) trivial rfl rfl rfl ?_
        clear hK a; intro a hK
        refine st_skip (d := 62) hK rfl rfl rfl ?_
        clear hK a; intro a hK
        refine st_skip (d := 63) hK rfl rfl rfl ?_
        clear hK a; intro a hK
        refine st_skip (d := 64) hK rfl rfl rfl ?_
        clear hK a; intro a hK
        refine st_op (d := 65) (v' := .bool true) (vs := []) (obs := []) hK rfl (fun _ => by kernel_rfl) trivial rfl rfl rfl ?_
        clear hK a; intro a hK
        refine st_op (d := 66) (v' := .bool true) (vs := []) (obs := []) hK rfl (fun _ => by kernel_rfl) trivial rfl rfl rfl ?_
        clear hK a; intro a hK
        refine st_skip (d := 67) hK rfl rfl rfl ?_
        clear hK a; intro a hK
        refine st_skip (d := 68) hK rfl rfl rfl ?_
        clear hK a; intro a hK
        refine st_skip (d := 69) hK rfl rfl rfl ?_
        clear hK a; intro a hK
        refine st_op (d := 70) (v' := .bool true) (vs := []) (obs := []) hK rfl (fun _ => by kernel_rfl) trivial rfl rfl rfl ?_
        clear hK a; intro a hK
        refine wpList_nil ?_
        replace hK := hK.weak (K' := [(1, .int .i64 key), (2, .int .i64 ts), (4, .int .i64 at_), (8, .pointer (some ⟨g1, 0, none⟩)), (11, .pointer (some ⟨g3, 0, none⟩)), (13, .pointer (some ⟨g5, 0, none⟩)), (14, .pointer (some ⟨g7, 0, none⟩)), (15, .pointer (some ⟨g9, 0, none⟩)), (16, .bool false), (17, .bool true), (70, .bool true)]) ⟨rfl, rfl, rfl, rfl, rfl, rfl, rfl, rfl, rfl, rfl, rfl, trivial⟩
        refine xt_norm ?_
        refine vc_cond (t := true) hK (fun _ => rfl) ?_
        rw [if_pos rfl]
        refine wp_seq ?_
        refine wp_region_lit ?_
        refine st_op (d := 71) (v' := .bool true) (vs := []) (obs := []) hK rfl (fun _ => by kernel_rfl) trivial rfl rfl rfl ?_
        clear hK a; intro a hK
        refine st_op (d := 16) (v' := .bool true) (vs := []) (obs := []) hK rfl (fun _ => by kernel_rfl) trivial rfl rfl rfl ?_
        clear hK a; intro a hK
        refine wpList_nil ?_
        refine xt_norm ?_
        refine wp_ret ?_
        refine xt_ret ?_
        refine vc_ret (v' := .bool true) (vs := []) (obs := []) hK (fun _ => by kernel_rfl) trivial rfl ?_
        exact ⟨rfl, hE.b⟩
      · have hc17p := of_decide_eq_false hc17
        replace hK := hK.sub (d := 56) (v' := .bool false) rfl (congrArg Value.bool hc17)
        refine st_op (d := 57) (v' := .pointer (some ⟨g5, 0, none⟩)) (vs := []) (obs := []) hK rfl (fun _ => by kernel_rfl) trivial rfl rfl rfl ?_
        clear hK a; intro a hK
        refine st_op (d := 58) (v' := .int .i64 la) (vs := [.int .i64 la]) (obs := [(⟨g5, 0, none⟩, .int .i64 la)]) hK rfl (fun _ => by kernel_rfl) ⟨((hE.blk 3 rfl).cell 0).trans rfl, trivial⟩ rfl rfl rfl ?_
        clear hK a; intro a hK
        refine st_op (d := 59) (v' := .bool (decide (la > 1000000000000))) (vs := []) (obs := []) hK rfl (fun _ => by kernel_rfl) trivial rfl rfl rfl ?_
        clear hK a; intro a hK
        refine st_op (d := 60) (v' := .bool (decide (la > 1000000000000))) (vs := []) (obs := []) hK rfl (fun _ => by kernel_rfl) trivial rfl rfl rfl ?_
        clear hK a; intro a hK
        refine st_op (d := 61) (v' := .bool (decide (la > 1000000000000))) (vs := []) (obs := []) hK rfl (fun _ => by kernel_rfl) trivial rfl rfl rfl ?_
        clear hK a; intro a hK
        rcases Bool.eq_false_or_eq_true (decide (la > 1000000000000)) with hc18 | hc18
        · have hc18p := of_decide_eq_true hc18
          replace hK := hK.sub (d := 61) (v' := .bool true) rfl (congrArg Value.bool hc18)
          refine st_skip (d := 62) hK rfl rfl rfl ?_
          clear hK a; intro a hK
          refine st_skip (d := 63) hK rfl rfl rfl ?_
          clear hK a; intro a hK
          refine st_skip (d := 64) hK rfl rfl rfl ?_
          clear hK a; intro a hK
          refine st_op (d := 65) (v' := .bool true) (vs := []) (obs := []) hK rfl (fun _ => by kernel_rfl) trivial rfl rfl rfl ?_
          clear hK a; intro a hK
          refine st_op (d := 66) (v' := .bool true) (vs := []) (obs := []) hK rfl (fun _ => by kernel_rfl) trivial rfl rfl rfl ?_
          clear hK a; intro a hK
          refine st_skip (d := 67) hK rfl rfl rfl ?_
          clear hK a; intro a hK
          refine st_skip (d := 68) hK rfl rfl rfl ?_
          clear hK a; intro a hK
          refine st_skip (d := 69) hK rfl rfl rfl ?_
          clear hK a; intro a hK
          refine st_op (d := 70) (v' := .bool true) (vs := []) (obs := []) hK rfl (fun _ => by kernel_rfl) trivial rfl rfl rfl ?_
          clear hK a; intro a hK
          refine wpList_nil ?_
          replace hK := hK.weak (K' := [(1, .int .i64 key), (2, .int .i64 ts), (4, .int .i64 at_), (8, .pointer (some ⟨g1, 0, none⟩)), (11, .pointer (some ⟨g3, 0, none⟩)), (13, .pointer (some ⟨g5, 0, none⟩)), (14, .pointer (some ⟨g7, 0, none⟩)), (15, .pointer (some ⟨g9, 0, none⟩)), (16, .bool false), (17, .bool true), (70, .bool true)]) ⟨rfl, rfl, rfl, rfl, rfl, rfl, rfl, rfl, rfl, rfl, rfl, trivial⟩
          refine xt_norm ?_
          refine vc_cond (t := true) hK (fun _ => rfl) ?_
          rw [if_pos rfl]
          refine wp_seq ?_
          refine wp_region_lit ?_
          refine st_op (d := 71) (v' := .bool true) (vs := []) (obs := []) hK rfl (fun _ => by kernel_rfl) trivial rfl rfl rfl ?_
          clear hK a; intro a hK
          refine st_op (d := 16) (v' := .bool true) (vs := []) (obs := []) hK rfl (fun _ => by kernel_rfl) trivial rfl rfl rfl ?_
          clear hK a; intro a hK
          refine wpList_nil ?_
          refine xt_norm ?_
          refine wp_ret ?_
          refine xt_ret ?_
          refine vc_ret (v' := .bool true) (vs := []) (obs := []) hK (fun _ => by kernel_rfl) trivial rfl ?_
          exact ⟨rfl, hE.b⟩
        · have hc18p := of_decide_eq_false hc18
          replace hK := hK.sub (d := 61) (v' := .bool false) rfl (congrArg Value.bool hc18)
          refine st_op (d := 62) (v' := .pointer (some ⟨g5, 1, none⟩)) (vs := []) (obs := []) hK rfl (fun _ => by kernel_rfl) trivial rfl rfl rfl ?_
          clear hK a; intro a hK
          refine st_op (d := 63) (v' := .int .i64 lb) (vs := [.int .i64 lb]) (obs := [(⟨g5, 1, none⟩, .int .i64 lb)]) hK rfl (fun _ => by kernel_rfl) ⟨((hE.blk 3 rfl).cell 1).trans rfl, trivial⟩ rfl rfl rfl ?_
          clear hK a; intro a hK
          refine st_op (d := 64) (v' := .bool (decide (lb < 0))) (vs := []) (obs := []) hK rfl (fun _ => by kernel_rfl) trivial rfl rfl rfl ?_
          clear hK a; intro a hK
          refine st_op (d := 65) (v' := .bool (decide (lb < 0))) (vs := []) (obs := []) hK rfl (fun _ => by kernel_rfl) trivial rfl rfl rfl ?_
          clear hK a; intro a hK
          refine st_op (d := 66) (v' := .bool (decide (lb < 0))) (vs := []) (obs := []) hK rfl (fun _ => by kernel_rfl) trivial rfl rfl rfl ?_
          clear hK a; intro a hK
          rcases Bool.eq_false_or_eq_true (decide (lb < 0)) with hc19 | hc19
          · have hc19p := of_decide_eq_true hc19
            replace hK := hK.sub (d := 66) (v' := .bool true) rfl (congrArg Value.bool hc19)
            refine st_skip (d := 67) hK rfl rfl rfl ?_
            clear hK a; intro a hK
            refine st_skip (d := 68) hK rfl rfl rfl ?_
            clear hK a; intro a hK
            refine st_skip (d := 69) hK rfl rfl rfl ?_
            clear hK a; intro a hK
            refine st_op (d := 70) (v' := .bool true) (vs := []) (obs := []) hK rfl (fun _ => by kernel_rfl) trivial rfl rfl rfl ?_
            clear hK a; intro a hK
            refine wpList_nil ?_
            replace hK := hK.weak (K' := [(1, .int .i64 key), (2, .int .i64 ts), (4, .int .i64 at_), (8, .pointer (some ⟨g1, 0, none⟩)), (11, .pointer (some ⟨g3, 0, none⟩)), (13, .pointer (some ⟨g5, 0, none⟩)), (14, .pointer (some ⟨g7, 0, none⟩)), (15, .pointer (some ⟨g9, 0, none⟩)), (16, .bool false), (17, .bool true), (70, .bool true)]) ⟨rfl, rfl, rfl, rfl, rfl, rfl, rfl, rfl, rfl, rfl, rfl, trivial⟩
            refine xt_norm ?_
            refine vc_cond (t := true) hK (fun _ => rfl) ?_
            rw [if_pos rfl]
            refine wp_seq ?_
            refine wp_region_lit ?_
            refine st_op (d := 71) (v' := .bool true) (vs := []) (obs := []) hK rfl (fun _ => by kernel_rfl) trivial rfl rfl rfl ?_
            clear hK a; intro a hK
            refine st_op (d := 16) (v' := .bool true) (vs := []) (obs := []) hK rfl (fun _ => by kernel_rfl) trivial rfl rfl rfl ?_
            clear hK a; intro a hK
            refine wpList_nil ?_
            refine xt_norm ?_
            refine wp_ret ?_
            refine xt_ret ?_
            refine vc_ret (v' := .bool true) (vs := []) (obs := []) hK (fun _ => by kernel_rfl) trivial rfl ?_
            exact ⟨rfl, hE.b⟩
          · have hc19p := of_decide_eq_false hc19
            replace hK := hK.sub (d := 66) (v' := .bool false) rfl (congrArg Value.bool hc19)
            refine st_op (d := 67) (v' := .pointer (some ⟨g5, 1, none⟩)) (vs := []) (obs := []) hK rfl (fun _ => by kernel_rfl) trivial rfl rfl rfl ?_
            clear hK a; intro a hK
            refine st_op (d := 68) (v' := .int .i64 lb) (vs := [.int .i64 lb]) (obs := [(⟨g5, 1, none⟩, .int .i64 lb)]) hK rfl (fun _ => by kernel_rfl) ⟨((hE.blk 3 rfl).cell 1).trans rfl, trivial⟩ rfl rfl rfl ?_
            clear hK a; intro a hK
            refine st_op (d := 69) (v' := .bool (decide (lb > 1000000000000))) (vs := []) (obs := []) hK rfl (fun _ => by kernel_rfl) trivial rfl rfl rfl ?_
            clear hK a; intro a hK
            refine st_op (d := 70) (v' := .bool (decide (lb > 1000000000000))) (vs := []) (obs := []) hK rfl (fun _ => by kernel_rfl) trivial rfl rfl rfl ?_
            clear hK a; intro a hK
            refine wpList_nil ?_
            replace hK := hK.weak (K' := [(1, .int .i64 key), (2, .int .i64 ts), (4, .int .i64 at_), (8, .pointer (some ⟨g1, 0, none⟩)), (11, .pointer (some ⟨g3, 0, none⟩)), (13, .pointer (some ⟨g5, 0, none⟩)), (14, .pointer (some ⟨g7, 0, none⟩)), (15, .pointer (some ⟨g9, 0, none⟩)), (16, .bool false), (17, .bool true), (70, .bool (decide (lb > 1000000000000)))]) ⟨rfl, rfl, rfl, rfl, rfl, rfl, rfl, rfl, rfl, rfl, rfl, trivial⟩
            refine xt_norm ?_
            rcases Bool.eq_false_or_eq_true (decide (lb > 1000000000000)) with hc20 | hc20
            · have hc20p := of_decide_eq_true hc20
              replace hK := hK.sub (d := 70) (v' := .bool true) rfl (congrArg Value.bool hc20)
              refine vc_cond (t := true) hK (fun _ => rfl) ?_
              rw [if_pos rfl]
              refine wp_seq ?_
              refine wp_region_lit ?_
              refine st_op (d := 71) (v' := .bool true) (vs := []) (obs := []) hK rfl (fun _ => by kernel_rfl) trivial rfl rfl rfl ?_
              clear hK a; intro a hK
              refine st_op (d := 16) (v' := .bool true) (vs := []) (obs := []) hK rfl (fun _ => by kernel_rfl) trivial rfl rfl rfl ?_
              clear hK a; intro a hK
              refine wpList_nil ?_
              refine xt_norm ?_
              refine wp_ret ?_
              refine xt_ret ?_
              refine vc_ret (v' := .bool true) (vs := []) (obs := []) hK (fun _ => by kernel_rfl) trivial rfl ?_
              exact ⟨rfl, hE.b⟩
            · have hc20p := of_decide_eq_false hc20
              replace hK := hK.sub (d := 70) (v' := .bool false) rfl (congrArg Value.bool hc20)
              refine vc_cond (t := false) hK (fun _ => rfl) ?_
              rw [if_neg (by simp)]
              refine wp_skip ?_
              refine xt_norm ?_
              refine wp_seq ?_
              refine wp_region_lit ?_
              refine st_op (d := 73) (v' := .int .i64 at_) (vs := []) (obs := []) hK rfl (fun _ => by kernel_rfl) trivial rfl rfl rfl ?_
              clear hK a; intro a hK
              refine st_op (d := 74) (v' := .pointer (some ⟨g7, 0, none⟩)) (vs := []) (obs := []) hK rfl (fun _ => by kernel_rfl) trivial rfl rfl rfl ?_
              clear hK a; intro a hK
              refine st_op (d := 75) (v' := .int .i64 l0) (vs := [.int .i64 l0]) (obs := [(⟨g7, 0, none⟩, .int .i64 l0)]) hK rfl (fun _ => by kernel_rfl) ⟨((hE.blk 2 rfl).cell 0).trans rfl, trivial⟩ rfl rfl rfl ?_
              clear hK a; intro a hK
              refine st_op (d := 76) (v' := .pointer (some ⟨g9, 0, none⟩)) (vs := []) (obs := []) hK rfl (fun _ => by kernel_rfl) trivial rfl rfl rfl ?_
              clear hK a; intro a hK
              refine st_op (d := 77) (v' := .int .i64 r0) (vs := [.int .i64 r0]) (obs := [(⟨g9, 0, none⟩, .int .i64 r0)]) hK rfl (fun _ => by kernel_rfl) ⟨((hE.blk 1 rfl).cell 0).trans rfl, trivial⟩ rfl rfl rfl ?_
              clear hK a; intro a hK
              refine st_call (d := 78) (f := 27) (args := #[.int .i64 at_, .int .i64 l0, .int .i64 r0]) hK rfl (fun _ => by kernel_rfl) rfl rfl (around_any at_ l0 r0 _) ?_
              rintro e w21 ⟨rfl, hb⟩
              refine ⟨_, rfl, ?_⟩
              clear hK a; intro a hK
              replace hE := hE.call hb
              clear hb
              refine st_op (d := 72) (v' := .tuple #[.agg #[.int .i64 (aroundS at_ l0 r0).1.1, .int .i64 (aroundS at_ l0 r0).1.2], .bool (aroundS at_ l0 r0).2]) (vs := []) (obs := []) hK rfl (fun _ => by kernel_rfl) trivial rfl rfl rfl ?_
              clear hK a; intro a hK
              refine st_op (d := 79) (v' := .agg #[.int .i64 (aroundS at_ l0 r0).1.1, .int .i64 (aroundS at_ l0 r0).1.2]) (vs := []) (obs := []) hK rfl (fun _ => by kernel_rfl) trivial rfl rfl rfl ?_
              clear hK a; intro a hK
              refine st_op (d := 80) (v' := .bool (aroundS at_ l0 r0).2) (vs := []) (obs := []) hK rfl (fun _ => by kernel_rfl) trivial rfl rfl rfl ?_
              clear hK a; intro a hK
              refine st_new (d := 18) (v := fun g => .pointer (some ⟨g, 0, none⟩)) (cs := #[.int .i64 0, .int .i64 0]) (t := 31) hK hE rfl (fun _ _ => by kernel_rfl) rfl rfl ?_
              clear hK hE a; intro a g22 w23 _ _ hK hE
              refine st_store2 0 [(0, .int .i64 (aroundS at_ l0 r0).1.1), (1, .int .i64 (aroundS at_ l0 r0).1.2)] hK hE rfl rfl (fun _ => by kernel_rfl) rfl rfl rfl ?_
              clear hE; intro w24 hs_ hk_ hE
              clear hs_ hk_
              refine st_op (d := 19) (v' := .bool (aroundS at_ l0 r0).2) (vs := []) (obs := []) hK rfl (fun _ => by kernel_rfl) trivial rfl rfl rfl ?_
              clear hK a; intro a hK
              refine wpList_nil ?_
              refine xt_norm ?_
              refine wp_seq ?_
              refine wp_region_lit ?_
              refine st_op (d := 82) (v' := .int .i64 at_) (vs := []) (obs := []) hK rfl (fun _ => by kernel_rfl) trivial rfl rfl rfl ?_
              clear hK a; intro a hK
              refine st_op (d := 83) (v' := .pointer (some ⟨g5, 0, none⟩)) (vs := []) (obs := []) hK rfl (fun _ => by kernel_rfl) trivial rfl rfl rfl ?_
              clear hK a; intro a hK
              refine st_op (d := 84) (v' := .int .i64 la) (vs := [.int .i64 la]) (obs := [(⟨g5, 0, none⟩, .int .i64 la)]) hK rfl (fun _ => by kernel_rfl) ⟨((hE.blk 4 rfl).cell 0).trans rfl, trivial⟩ rfl rfl rfl ?_
              clear hK a; intro a hK
              refine st_op (d := 85) (v' := .int .i64 (IntKind.i64.wrap (at_ + la))) (vs := []) (obs := []) hK rfl (fun _ => by kernel_rfl) trivial rfl rfl rfl ?_
              clear hK a; intro a hK
              refine st_op (d := 86) (v' := .pointer (some ⟨g7, 1, none⟩)) (vs := []) (obs := []) hK rfl (fun _ => by kernel_rfl) trivial rfl rfl rfl ?_
              clear hK a; intro a hK
              refine st_op (d := 87) (v' := .int .i64 l1) (vs := [.int .i64 l1]) (obs := [(⟨g7, 1, none⟩, .int .i64 l1)]) hK rfl (fun _ => by kernel_rfl) ⟨((hE.blk 3 rfl).cell 1).trans rfl, trivial⟩ rfl rfl rfl ?_
              clear hK a; intro a hK
              refine st_op (d := 88) (v' := .pointer (some ⟨g9, 1, none⟩)) (vs := []) (obs := []) hK rfl (fun _ => by kernel_rfl) trivial rfl rfl rfl ?_
              clear hK a; intro a hK
              refine st_op (d := 89) (v' := .int .i64 r1) (vs := [.int .i64 r1]) (obs := [(⟨g9, 1, none⟩, .int .i64 r1)]) hK rfl (fun _ => by kernel_rfl) ⟨((hE.blk 2 rfl).cell 1).trans rfl, trivial⟩ rfl rfl rfl ?_
              clear hK a; intro a hK
              refine st_call (d := 90) (f := 27) (args := #[.int .i64 (IntKind.i64.wrap (at_ + la)), .int .i64 l1, .int .i64 r1]) hK rfl (fun _ => by kernel_rfl) rfl rfl (around_any (IntKind.i64.wrap (at_ + la)) l1 r1 _) ?_
              rintro e w25 ⟨rfl, hb⟩
              refine ⟨_, rfl, ?_⟩
              clear hK a; intro a hK
              replace hE := hE.call hb
              clear hb
              refine st_op (d := 81) (v' := .tuple #[.agg #[.int .i64 (aroundS (IntKind.i64.wrap (at_ + la)) l1 r1).1.1, .int .i64 (aroundS (IntKind.i64.wrap (at_ + la)) l1 r1).1.2], .bool (aroundS (IntKind.i64.wrap (at_ + la)) l1 r1).2]) (vs := []) (obs := []) hK rfl (fun _ => by kernel_rfl) trivial rfl rfl rfl ?_
              clear hK a; intro a hK
              refine st_op (d := 91) (v' := .agg #[.int .i64 (aroundS (IntKind.i64.wrap (at_ + la)) l1 r1).1.1, .int .i64 (aroundS (IntKind.i64.wrap (at_ + la)) l1 r1).1.2]) (vs := []) (obs := []) hK rfl (fun _ => by kernel_rfl) trivial rfl rfl rfl ?_
              clear hK a; intro a hK
              refine st_op (d := 92) (v' := .bool (aroundS (IntKind.i64.wrap (at_ + la)) l1 r1).2) (vs := []) (obs := []) hK rfl (fun _ => by kernel_rfl) trivial rfl rfl rfl ?_
              clear hK a; intro a hK
              refine st_new (d := 20) (v := fun g => .pointer (some ⟨g, 0, none⟩)) (cs := #[.int .i64 0, .int .i64 0]) (t := 31) hK hE rfl (fun _ _ => by kernel_rfl) rfl rfl ?_
              clear hK hE a; intro a g26 w27 _ _ hK hE
              refine st_store2 0 [(0, .int .i64 (aroundS (IntKind.i64.wrap (at_ + la)) l1 r1).1.1), (1, .int .i64 (aroundS (IntKind.i64.wrap (at_ + la)) l1 r1).1.2)] hK hE rfl rfl (fun _ => by kernel_rfl) rfl rfl rfl ?_
              clear hE; intro w28 hs_ hk_ hE
              clear hs_ hk_
              refine st_op (d := 21) (v' := .bool (aroundS (IntKind.i64.wrap (at_ + la)) l1 r1).2) (vs := []) (obs := []) hK rfl (fun _ => by kernel_rfl) trivial rfl rfl rfl ?_
              clear hK a; intro a hK
              refine wpList_nil ?_
              replace hK := hK.weak (K' := [(1, .int .i64 key), (2, .int .i64 ts), (4, .int .i64 at_), (8, .pointer (some ⟨g1, 0, none⟩)), (11, .pointer (some ⟨g3, 0, none⟩)), (13, .pointer (some ⟨g5, 0, none⟩)), (14, .pointer (some ⟨g7, 0, none⟩)), (15, .pointer (some ⟨g9, 0, none⟩)), (16, .bool false), (17, .bool true), (18, .pointer (some ⟨g22, 0, none⟩)), (19, .bool (aroundS at_ l0 r0).2), (20, .pointer (some ⟨g26, 0, none⟩)), (21, .bool (aroundS (IntKind.i64.wrap (at_ + la)) l1 r1).2)]) ⟨rfl, rfl, rfl, rfl, rfl, rfl, rfl, rfl, rfl, rfl, rfl, rfl, rfl, rfl, trivial⟩
              refine xt_norm ?_
              refine wp_seq ?_
              refine wp_region_lit ?_
              refine st_op (d := 94) (v' := .int .i64 at_) (vs := []) (obs := []) hK rfl (fun _ => by kernel_rfl) trivial rfl rfl rfl ?_
              clear hK a; intro a hK
              refine st_op (d := 95) (v' := .pointer (some ⟨g5, 0, none⟩)) (vs := []) (obs := []) hK rfl (fun _ => by kernel_rfl) trivial rfl rfl rfl ?_
              clear hK a; intro a hK
              refine st_op (d := 96) (v' := .int .i64 la) (vs := [.int .i64 la]) (obs := [(⟨g5, 0, none⟩, .int .i64 la)]) hK rfl (fun _ => by kernel_rfl) ⟨((hE.blk 5 rfl).cell 0).trans rfl, trivial⟩ rfl rfl rfl ?_
              clear hK a; intro a hK
              refine st_op (d := 97) (v' := .int .i64 (IntKind.i64.wrap (at_ + la))) (vs := []) (obs := []) hK rfl (fun _ => by kernel_rfl) trivial rfl rfl rfl ?_
              clear hK a; intro a hK
              refine st_op (d := 98) (v' := .pointer (some ⟨g5, 1, none⟩)) (vs := []) (obs := []) hK rfl (fun _ => by kernel_rfl) trivial rfl rfl rfl ?_
              clear hK a; intro a hK
              refine st_op (d := 99) (v' := .int .i64 lb) (vs := [.int .i64 lb]) (obs := [(⟨g5, 1, none⟩, .int .i64 lb)]) hK rfl (fun _ => by kernel_rfl) ⟨((hE.blk 5 rfl).cell 1).trans rfl, trivial⟩ rfl rfl rfl ?_
              clear hK a; intro a hK
              refine st_op (d := 100) (v' := .int .i64 (IntKind.i64.wrap ((IntKind.i64.wrap (at_ + la)) + lb))) (vs := []) (obs := []) hK rfl (fun _ => by kernel_rfl) trivial rfl rfl rfl ?_
              clear hK a; intro a hK
              refine st_op (d := 101) (v' := .pointer (some ⟨g7, 2, none⟩)) (vs := []) (obs := []) hK rfl (fun _ => by kernel_rfl) trivial rfl rfl rfl ?_
              clear hK a; intro a hK
              refine st_op (d := 102) (v' := .int .i64 l2) (vs := [.int .i64 l2]) (obs := [(⟨g7, 2, none⟩, .int .i64 l2)]) hK rfl (fun _ => by kernel_rfl) ⟨((hE.blk 4 rfl).cell 2).trans rfl, trivial⟩ rfl rfl rfl ?_
              clear hK a; intro a hK
              refine st_op (d := 103) (v' := .pointer (some ⟨g9, 2, none⟩)) (vs := []) (obs := []) hK rfl (fun _ => by kernel_rfl) trivial rfl rfl rfl ?_
              clear hK a; intro a hK
              refine st_op (d := 104) (v' := .int .i64 r2) (vs := [.int .i64 r2]) (obs := [(⟨g9, 2, none⟩, .int .i64 r2)]) hK rfl (fun _ => by kernel_rfl) ⟨((hE.blk 3 rfl).cell 2).trans rfl, trivial⟩ rfl rfl rfl ?_
              clear hK a; intro a hK
              refine st_call (d := 105) (f := 27) (args := #[.int .i64 (IntKind.i64.wrap ((IntKind.i64.wrap (at_ + la)) + lb)), .int .i64 l2, .int .i64 r2]) hK rfl (fun _ => by kernel_rfl) rfl rfl (around_any (IntKind.i64.wrap ((IntKind.i64.wrap (at_ + la)) + lb)) l2 r2 _) ?_
              rintro e w29 ⟨rfl, hb⟩
              refine ⟨_, rfl, ?_⟩
              clear hK a; intro a hK
              replace hE := hE.call hb
              clear hb
              refine st_op (d := 93) (v' := .tuple #[.agg #[.int .i64 (aroundS (IntKind.i64.wrap ((IntKind.i64.wrap (at_ + la)) + lb)) l2 r2).1.1, .int .i64 (aroundS (IntKind.i64.wrap ((IntKind.i64.wrap (at_ + la)) + lb)) l2 r2).1.2], .bool (aroundS (IntKind.i64.wrap ((IntKind.i64.wrap (at_ + la)) + lb)) l2 r2).2]) (vs := []) (obs := []) hK rfl (fun _ => by kernel_rfl) trivial rfl rfl rfl ?_
              clear hK a; intro a hK
              refine st_op (d := 106) (v' := .agg #[.int .i64 (aroundS (IntKind.i64.wrap ((IntKind.i64.wrap (at_ + la)) + lb)) l2 r2).1.1, .int .i64 (aroundS (IntKind.i64.wrap ((IntKind.i64.wrap (at_ + la)) + lb)) l2 r2).1.2]) (vs := []) (obs := []) hK rfl (fun _ => by kernel_rfl) trivial rfl rfl rfl ?_
              clear hK a; intro a hK
              refine st_op (d := 107) (v' := .bool (aroundS (IntKind.i64.wrap ((IntKind.i64.wrap (at_ + la)) + lb)) l2 r2).2) (vs := []) (obs := []) hK rfl (fun _ => by kernel_rfl) trivial rfl rfl rfl ?_
              clear hK a; intro a hK
              refine st_new (d := 22) (v := fun g => .pointer (some ⟨g, 0, none⟩)) (cs := #[.int .i64 0, .int .i64 0]) (t := 31) hK hE rfl (fun _ _ => by kernel_rfl) rfl rfl ?_
              clear hK hE a; intro a g30 w31 _ _ hK hE
              refine st_store2 0 [(0, .int .i64 (aroundS (IntKind.i64.wrap ((IntKind.i64.wrap (at_ + la)) + lb)) l2 r2).1.1), (1, .int .i64 (aroundS (IntKind.i64.wrap ((IntKind.i64.wrap (at_ + la)) + lb)) l2 r2).1.2)] hK hE rfl rfl (fun _ => by kernel_rfl) rfl rfl rfl ?_
              clear hE; intro w32 hs_ hk_ hE
              clear hs_ hk_
              refine st_op (d := 23) (v' := .bool (aroundS (IntKind.i64.wrap ((IntKind.i64.wrap (at_ + la)) + lb)) l2 r2).2) (vs := []) (obs := []) hK rfl (fun _ => by kernel_rfl) trivial rfl rfl rfl ?_
              clear hK a; intro a hK
              refine wpList_nil ?_
              replace hK := hK.weak (K' := [(1, .int .i64 key), (2, .int .i64 ts), (8, .pointer (some ⟨g1, 0, none⟩)), (11, .pointer (some ⟨g3, 0, none⟩)), (16, .bool false), (17, .bool true), (18, .pointer (some ⟨g22, 0, none⟩)), (19, .bool (aroundS at_ l0 r0).2), (20, .pointer (some ⟨g26, 0, none⟩)), (21, .bool (aroundS (IntKind.i64.wrap (at_ + la)) l1 r1).2), (22, .pointer (some ⟨g30, 0, none⟩)), (23, .bool (aroundS (IntKind.i64.wrap ((IntKind.i64.wrap (at_ + la)) + lb)) l2 r2).2)]) ⟨rfl, rfl, rfl, rfl, rfl, rfl, rfl, rfl, rfl, rfl, rfl, rfl, trivial⟩
              refine xt_norm ?_
              refine wp_seq ?_
              refine wp_seq ?_
              refine wp_region_lit ?_
              refine st_op (d := 108) (v' := .bool (aroundS at_ l0 r0).2) (vs := []) (obs := []) hK rfl (fun _ => by kernel_rfl) trivial rfl rfl rfl ?_
              clear hK a; intro a hK
              refine st_op (d := 109) (v' := .bool (!(aroundS at_ l0 r0).2)) (vs := []) (obs := []) hK rfl (fun _ => by kernel_rfl) trivial rfl rfl rfl ?_
              clear hK a; intro a hK
              refine st_op (d := 110) (v' := .bool (!(aroundS at_ l0 r0).2)) (vs := []) (obs := []) hK rfl (fun _ => by kernel_rfl) trivial rfl rfl rfl ?_
              clear hK a; intro a hK
              rcases Bool.eq_false_or_eq_true ((aroundS at_ l0 r0).2) with hc33 | hc33
              · have ha1 := around_ok hc33
                replace hK := hK.sub (d := 110) (v' := .bool false) rfl (congrArg (fun b => Value.bool !b) hc33)
                refine st_op (d := 111) (v' := .bool (aroundS (IntKind.i64.wrap (at_ + la)) l1 r1).2) (vs := []) (obs := []) hK rfl (fun _ => by kernel_rfl) trivial rfl rfl rfl ?_
                clear hK a; intro a hK
                refine st_op (d := 112) (v' := .bool (!(aroundS (IntKind.i64.wrap (at_ + la)) l1 r1).2)) (vs := []) (obs := []) hK rfl (fun _ => by kernel_rfl) trivial rfl rfl rfl ?_
                clear hK a; intro a hK
                refine st_op (d := 113) (v' := .bool (!(aroundS (IntKind.i64.wrap (at_ + la)) l1 r1).2)) (vs := []) (obs := []) hK rfl (fun _ => by kernel_rfl) trivial rfl rfl rfl ?_
                clear hK a; intro a hK
                refine st_op (d := 114) (v' := .bool (!(aroundS (IntKind.i64.wrap (at_ + la)) l1 r1).2)) (vs := []) (obs := []) hK rfl (fun _ => by kernel_rfl) trivial rfl rfl rfl ?_
                clear hK a; intro a hK
                rcases Bool.eq_false_or_eq_true ((aroundS (IntKind.i64.wrap (at_ + la)) l1 r1).2) with hc34 | hc34
                · have ha2 := around_ok hc34
                  have hs1 := wrap_sum (a := at_) (b := la) (by omega) (by omega)
                  replace hK := hK.sub (d := 114) (v' := .bool false) rfl (congrArg (fun b => Value.bool !b) hc34)
                  refine st_op (d := 115) (v' := .bool (aroundS (IntKind.i64.wrap ((IntKind.i64.wrap (at_ + la)) + lb)) l2 r2).2) (vs := []) (obs := []) hK rfl (fun _ => by kernel_rfl) trivial rfl rfl rfl ?_
                  clear hK a; intro a hK
                  refine st_op (d := 116) (v' := .bool (!(aroundS (IntKind.i64.wrap ((IntKind.i64.wrap (at_ + la)) + lb)) l2 r2).2)) (vs := []) (obs := []) hK rfl (fun _ => by kernel_rfl) trivial rfl rfl rfl ?_
                  clear hK a; intro a hK
                  refine st_op (d := 117) (v' := .bool (!(aroundS (IntKind.i64.wrap ((IntKind.i64.wrap (at_ + la)) + lb)) l2 r2).2)) (vs := []) (obs := []) hK rfl (fun _ => by kernel_rfl) trivial rfl rfl rfl ?_
                  clear hK a; intro a hK
                  refine wpList_nil ?_
                  refine xt_norm ?_
                  rcases Bool.eq_false_or_eq_true ((aroundS (IntKind.i64.wrap ((IntKind.i64.wrap (at_ + la)) + lb)) l2 r2).2) with hc35 | hc35
                  · have ha3 := around_ok hc35
                    have hs2 := wrap_sum (a := IntKind.i64.wrap (at_ + la)) (b := lb) (by omega) (by omega)
                    replace hK := hK.sub (d := 117) (v' := .bool false) rfl (congrArg (fun b => Value.bool !b) hc35)
                    refine vc_cond (t := false) hK (fun _ => rfl) ?_
                    rw [if_neg (by simp)]
                    refine wp_skip ?_
                    refine xt_norm ?_
                    refine wp_seq ?_
                    refine wp_region_lit ?_
                    refine st_op (d := 120) (v' := .agg #[.int .i64 L.last, .slice L.sa L.st.length L.sc, .slice L.oa L.op.length L.oc]) (vs := [.int .i64 L.last, .slice L.sa L.st.length L.sc, .slice L.oa L.op.length L.oc]) (obs := [(⟨g1, 0, none⟩, .int .i64 L.last), (⟨g1, 1, none⟩, .slice L.sa L.st.length L.sc), (⟨g1, 2, none⟩, .slice L.oa L.op.length L.oc)]) hK rfl (fun _ => by kernel_rfl) ⟨((hE.blk 8 rfl).cell 0).trans rfl, ((hE.blk 8 rfl).cell 1).trans rfl, ((hE.blk 8 rfl).cell 2).trans rfl, trivial⟩ rfl rfl rfl ?_
                    clear hK a; intro a hK
                    refine st_op (d := 121) (v' := .int .i64 key) (vs := []) (obs := []) hK rfl (fun _ => by kernel_rfl) trivial rfl rfl rfl ?_
                    clear hK a; intro a hK
                    refine st_op (d := 122) (v' := .int .i64 ts) (vs := []) (obs := []) hK rfl (fun _ => by kernel_rfl) trivial rfl rfl rfl ?_
                    clear hK a; intro a hK
                    refine st_op (d := 123) (v' := .agg #[.int .i64 (aroundS at_ l0 r0).1.1, .int .i64 (aroundS at_ l0 r0).1.2]) (vs := [.int .i64 (aroundS at_ l0 r0).1.1, .int .i64 (aroundS at_ l0 r0).1.2]) (obs := [(⟨g22, 0, none⟩, .int .i64 (aroundS at_ l0 r0).1.1), (⟨g22, 1, none⟩, .int .i64 (aroundS at_ l0 r0).1.2)]) hK rfl (fun _ => by kernel_rfl) ⟨((hE.blk 2 rfl).cell 0).trans rfl, ((hE.blk 2 rfl).cell 1).trans rfl, trivial⟩ rfl rfl rfl ?_
                    clear hK a; intro a hK
                    refine st_call (d := 124) (f := 22) (args := #[.agg #[.int .i64 L.last, .slice L.sa L.st.length L.sc, .slice L.oa L.op.length L.oc], .int .i64 key, .int .i64 ts, .agg #[.int .i64 (aroundS at_ l0 r0).1.1, .int .i64 (aroundS at_ l0 r0).1.2]]) hK rfl (fun _ => by kernel_rfl) rfl rfl (readL_any L key ts (aroundS at_ l0 r0).1.1 (aroundS at_ l0 r0).1.2 _ hLS (hE.get 10 rfl)) ?_
                    rintro e w36 ⟨rfl, hb⟩
                    refine ⟨_, rfl, ?_⟩
                    clear hK a; intro a hK
                    replace hE := hE.call hb
                    clear hb
                    refine st_op (d := 119) (v' := .tuple #[.agg #[.int .i64 (readLL L.d key ts (aroundS at_ l0 r0).1.1 (aroundS at_ l0 r0).1.2).1.key, .int .i64 (readLL L.d key ts (aroundS at_ l0 r0).1.1 (aroundS at_ l0 r0).1.2).1.ts, .int .i64 (readLL L.d key ts (aroundS at_ l0 r0).1.1 (aroundS at_ l0 r0).1.2).1.value, .bool (readLL L.d key ts (aroundS at_ l0 r0).1.1 (aroundS at_ l0 r0).1.2).1.gone], .bool (readLL L.d key ts (aroundS at_ l0 r0).1.1 (aroundS at_ l0 r0).1.2).2.1, .int .i64 (readLL L.d key ts (aroundS at_ l0 r0).1.1 (aroundS at_ l0 r0).1.2).2.2]) (vs := []) (obs := []) hK rfl (fun _ => by kernel_rfl) trivial rfl rfl rfl ?_
                    clear hK a; intro a hK
                    refine st_op (d := 125) (v' := .agg #[.int .i64 (readLL L.d key ts (aroundS at_ l0 r0).1.1 (aroundS at_ l0 r0).1.2).1.key, .int .i64 (readLL L.d key ts (aroundS at_ l0 r0).1.1 (aroundS at_ l0 r0).1.2).1.ts, .int .i64 (readLL L.d key ts (aroundS at_ l0 r0).1.1 (aroundS at_ l0 r0).1.2).1.value, .bool (readLL L.d key ts (aroundS at_ l0 r0).1.1 (aroundS at_ l0 r0).1.2).1.gone]) (vs := []) (obs := []) hK rfl (fun _ => by kernel_rfl) trivial rfl rfl rfl ?_
                    clear hK a; intro a hK
                    refine st_op (d := 126) (v' := .bool (readLL L.d key ts (aroundS at_ l0 r0).1.1 (aroundS at_ l0 r0).1.2).2.1) (vs := []) (obs := []) hK rfl (fun _ => by kernel_rfl) trivial rfl rfl rfl ?_
                    clear hK a; intro a hK
                    refine st_op (d := 127) (v' := .int .i64 (readLL L.d key ts (aroundS at_ l0 r0).1.1 (aroundS at_ l0 r0).1.2).2.2) (vs := []) (obs := []) hK rfl (fun _ => by kernel_rfl) trivial rfl rfl rfl ?_
                    clear hK a; intro a hK
                    refine st_new (d := 24) (v := fun g => .pointer (some ⟨g, 0, none⟩)) (cs := #[.int .i64 0, .int .i64 0, .int .i64 0, .bool false]) (t := 44) hK hE rfl (fun _ _ => by kernel_rfl) rfl rfl ?_
                    clear hK hE a; intro a g37 w38 _ _ hK hE
                    refine st_store2 0 [(0, .int .i64 (readLL L.d key ts (aroundS at_ l0 r0).1.1 (aroundS at_ l0 r0).1.2).1.key), (1, .int .i64 (readLL L.d key ts (aroundS at_ l0 r0).1.1 (aroundS at_ l0 r0).1.2).1.ts), (2, .int .i64 (readLL L.d key ts (aroundS at_ l0 r0).1.1 (aroundS at_ l0 r0).1.2).1.value), (3, .bool (readLL L.d key ts (aroundS at_ l0 r0).1.1 (aroundS at_ l0 r0).1.2).1.gone)] hK hE rfl rfl (fun _ => by kernel_rfl) rfl rfl rfl ?_
                    clear hE; intro w39 hs_ hk_ hE
                    clear hs_ hk_
                    refine st_op (d := 25) (v' := .bool (readLL L.d key ts (aroundS at_ l0 r0).1.1 (aroundS at_ l0 r0).1.2).2.1) (vs := []) (obs := []) hK rfl (fun _ => by kernel_rfl) trivial rfl rfl rfl ?_
                    clear hK a; intro a hK
                    refine st_op (d := 26) (v' := .int .i64 (readLL L.d key ts (aroundS at_ l0 r0).1.1 (aroundS at_ l0 r0).1.2).2.2) (vs := []) (obs := []) hK rfl (fun _ => by kernel_rfl) trivial rfl rfl rfl ?_
                    clear hK a; intro a hK
                    refine wpList_nil ?_
                    replace hK := hK.weak (K' := [(1, .int .i64 key), (2, .int .i64 ts), (8, .pointer (some ⟨g1, 0, none⟩)), (11, .pointer (some ⟨g3, 0, none⟩)), (16, .bool false), (17, .bool true), (20, .pointer (some ⟨g26, 0, none⟩)), (22, .pointer (some ⟨g30, 0, none⟩)), (24, .pointer (some ⟨g37, 0, none⟩)), (25, .bool (readLL L.d key ts (aroundS at_ l0 r0).1.1 (aroundS at_ l0 r0).1.2).2.1), (26, .int .i64 (readLL L.d key ts (aroundS at_ l0 r0).1.1 (aroundS at_ l0 r0).1.2).2.2)]) ⟨rfl, rfl, rfl, rfl, rfl, rfl, rfl, rfl, rfl, rfl, rfl, trivial⟩
                    refine xt_norm ?_
                    refine wp_seq ?_
                    refine wp_seq ?_
                    refine wp_region_lit ?_
                    refine st_op (d := 128) (v' := .int .i64 (readLL L.d key ts (aroundS at_ l0 r0).1.1 (aroundS at_ l0 r0).1.2).2.2) (vs := []) (obs := []) hK rfl (fun _ => by kernel_rfl) trivial rfl rfl rfl ?_
                    clear hK a; intro a hK
                    refine st_op (d := 129) (v' := .bool ((readLL L.d key ts (aroundS at_ l0 r0).1.1 (aroundS at_ l0 r0).1.2).2.2 != 0)) (v := .bool (!((readLL L.d key ts (aroundS at_ l0 r0).1.1 (aroundS at_ l0 r0).1.2).2.2 == 0))) (vs := []) (obs := []) hK rfl (fun _ => by kernel_rfl) trivial rfl rfl rfl ?_
                    clear hK a; intro a hK
                    refine wpList_nil ?_
                    refine xt_norm ?_
                    rcases Bool.eq_false_or_eq_true (((readLL L.d key ts (aroundS at_ l0 r0).1.1 (aroundS at_ l0 r0).1.2).2.2 == 0)) with hc40 | hc40
                    · have hc40p := eq_of_beq hc40
                      have hrp := read_ok hc40p
                      replace hK := hK.sub (d := 129) (v' := .bool false) rfl (congrArg (fun b => Value.bool !b) hc40)
                      refine vc_cond (t := false) hK (fun _ => rfl) ?_
                      rw [if_neg (by simp)]
                      refine wp_skip ?_
                      refine xt_norm ?_
                      refine wp_seq ?_
                      refine wp_region_lit ?_
                      refine st_op (d := 144) (v' := .agg #[.int .i64 L.last, .slice L.sa L.st.length L.sc, .slice L.oa L.op.length L.oc]) (vs := [.int .i64 L.last, .slice L.sa L.st.length L.sc, .slice L.oa L.op.length L.oc]) (obs := [(⟨g1, 0, none⟩, .int .i64 L.last), (⟨g1, 1, none⟩, .slice L.sa L.st.length L.sc), (⟨g1, 2, none⟩, .slice L.oa L.op.length L.oc)]) hK rfl (fun _ => by kernel_rfl) ⟨((hE.blk 9 rfl).cell 0).trans rfl, ((hE.blk 9 rfl).cell 1).trans rfl, ((hE.blk 9 rfl).cell 2).trans rfl, trivial⟩ rfl rfl rfl ?_
                      clear hK a; intro a hK
                      refine st_op (d := 145) (v' := .agg #[.int .i64 t.t.id, .int .i64 t.t.ts, .slice t.ra t.t.reads.length t.rc, .slice t.wa t.t.writes.length t.wc]) (vs := [.int .i64 t.t.id, .int .i64 t.t.ts, .slice t.ra t.t.reads.length t.rc, .slice t.wa t.t.writes.length t.wc]) (obs := [(⟨g3, 0, none⟩, .int .i64 t.t.id), (⟨g3, 1, none⟩, .int .i64 t.t.ts), (⟨g3, 2, none⟩, .slice t.ra t.t.reads.length t.rc), (⟨g3, 3, none⟩, .slice t.wa t.t.writes.length t.wc)]) hK rfl (fun _ => by kernel_rfl) ⟨((hE.blk 8 rfl).cell 0).trans rfl, ((hE.blk 8 rfl).cell 1).trans rfl, ((hE.blk 8 rfl).cell 2).trans rfl, ((hE.blk 8 rfl).cell 3).trans rfl, trivial⟩ rfl rfl rfl ?_
                      clear hK a; intro a hK
                      refine st_op (d := 146) (v' := .agg #[.int .i64 (aroundS (IntKind.i64.wrap (at_ + la)) l1 r1).1.1, .int .i64 (aroundS (IntKind.i64.wrap (at_ + la)) l1 r1).1.2]) (vs := [.int .i64 (aroundS (IntKind.i64.wrap (at_ + la)) l1 r1).1.1, .int .i64 (aroundS (IntKind.i64.wrap (at_ + la)) l1 r1).1.2]) (obs := [(⟨g26, 0, none⟩, .int .i64 (aroundS (IntKind.i64.wrap (at_ + la)) l1 r1).1.1), (⟨g26, 1, none⟩, .int .i64 (aroundS (IntKind.i64.wrap (at_ + la)) l1 r1).1.2)]) hK rfl (fun _ => by kernel_rfl) ⟨((hE.blk 2 rfl).cell 0).trans rfl, ((hE.blk 2 rfl).cell 1).trans rfl, trivial⟩ rfl rfl rfl ?_
                      clear hK a; intro a hK
                      refine st_call (d := 147) (f := 13) (args := #[.agg #[.int .i64 L.last, .slice L.sa L.st.length L.sc, .slice L.oa L.op.length L.oc], .agg #[.int .i64 t.t.id, .int .i64 t.t.ts, .slice t.ra t.t.reads.length t.rc, .slice t.wa t.t.writes.length t.wc], .agg #[.int .i64 (aroundS (IntKind.i64.wrap (at_ + la)) l1 r1).1.1, .int .i64 (aroundS (IntKind.i64.wrap (at_ + la)) l1 r1).1.2]]) hK rfl (fun _ => by kernel_rfl) rfl rfl (stamp_anyF L t (aroundS (IntKind.i64.wrap (at_ + la)) l1 r1).1.1 (aroundS (IntKind.i64.wrap (at_ + la)) l1 r1).1.2 _ hLS hsmt (hE.get 11 rfl) (hE.get 10 rfl)) ?_
                      rintro e w43 ⟨M41, v42, rfl, hM41, hv41, hl41, hx41, hfr41, hb⟩
                      refine ⟨_, rfl, ?_⟩
                      clear hK a; intro a hK
                      replace hE := hE.call hb
                      clear hb
                      replace hE := hE.dat (p := fun W => LdW W M41) (fun W hW => LdW.then_ hl41 hW)
                      replace hE := hE.dat (p := fun W => TxW W v42) (fun W hW => TxW.then_ hx41 hW)
                      refine st_op (d := 143) (v' := .tuple #[.agg #[.int .i64 M41.last, .slice M41.sa M41.st.length M41.sc, .slice M41.oa M41.op.length M41.oc], .agg #[.int .i64 v42.t.id, .int .i64 v42.t.ts, .slice v42.ra v42.t.reads.length v42.rc, .slice v42.wa v42.t.writes.length v42.wc], .int .i64 (stampS L.d t.t (aroundS (IntKind.i64.wrap (at_ + la)) l1 r1).1.1 (aroundS (IntKind.i64.wrap (at_ + la)) l1 r1).1.2).2.2]) (vs := []) (obs := []) hK rfl (fun _ => by kernel_rfl) trivial rfl rfl rfl ?_
                      clear hK a; intro a hK
                      refine st_op (d := 148) (v' := .agg #[.int .i64 M41.last, .slice M41.sa M41.st.length M41.sc, .slice M41.oa M41.op.length M41.oc]) (vs := []) (obs := []) hK rfl (fun _ => by kernel_rfl) trivial rfl rfl rfl ?_
                      clear hK a; intro a hK
                      refine st_op (d := 149) (v' := .agg #[.int .i64 v42.t.id, .int .i64 v42.t.ts, .slice v42.ra v42.t.reads.length v42.rc, .slice v42.wa v42.t.writes.length v42.wc]) (vs := []) (obs := []) hK rfl (fun _ => by kernel_rfl) trivial rfl rfl rfl ?_
                      clear hK a; intro a hK
                      refine st_op (d := 150) (v' := .int .i64 (stampS L.d t.t (aroundS (IntKind.i64.wrap (at_ + la)) l1 r1).1.1 (aroundS (IntKind.i64.wrap (at_ + la)) l1 r1).1.2).2.2) (vs := []) (obs := []) hK rfl (fun _ => by kernel_rfl) trivial rfl rfl rfl ?_
                      clear hK a; intro a hK
                      refine st_new (d := 27) (v := fun g => .pointer (some ⟨g, 0, none⟩)) (cs := #[.int .i64 0, .slice none 0 0, .slice none 0 0]) (t := 25) hK hE rfl (fun _ _ => by kernel_rfl) rfl rfl ?_
                      clear hK hE a; intro a g44 w45 _ _ hK hE
                      refine st_new (d := 28) (v := fun g => .pointer (some ⟨g, 0, none⟩)) (cs := #[.int .i64 0, .int .i64 0, .slice none 0 0, .slice none 0 0]) (t := 29) hK hE rfl (fun _ _ => by kernel_rfl) rfl rfl ?_
                      clear hK hE a; intro a g46 w47 _ _ hK hE
                      refine st_store2 1 [(0, .int .i64 M41.last), (1, .slice M41.sa M41.st.length M41.sc), (2, .slice M41.oa M41.op.length M41.oc)] hK hE rfl rfl (fun _ => by kernel_rfl) rfl rfl rfl ?_
                      clear hE; intro w48 hs_ hk_ hE
                      clear hs_ hk_
                      refine st_store2 0 [(0, .int .i64 v42.t.id), (1, .int .i64 v42.t.ts), (2, .slice v42.ra v42.t.reads.length v42.rc), (3, .slice v42.wa v42.t.writes.length v42.wc)] hK hE rfl rfl (fun _ => by kernel_rfl) rfl rfl rfl ?_
                      clear hE; intro w49 hs_ hk_ hE
                      clear hs_ hk_
                      refine st_op (d := 29) (v' := .int .i64 (stampS L.d t.t (aroundS (IntKind.i64.wrap (at_ + la)) l1 r1).1.1 (aroundS (IntKind.i64.wrap (at_ + la)) l1 r1).1.2).2.2) (vs := []) (obs := []) hK rfl (fun _ => by kernel_rfl) trivial rfl rfl rfl ?_
                      clear hK a; intro a hK
                      refine wpList_nil ?_
                      refine xt_norm ?_
                      refine wp_seq ?_
                      refine wp_seq ?_
                      refine wp_region_lit ?_
                      refine st_op (d := 151) (v' := .int .i64 (stampS L.d t.t (aroundS (IntKind.i64.wrap (at_ + la)) l1 r1).1.1 (aroundS (IntKind.i64.wrap (at_ + la)) l1 r1).1.2).2.2) (vs := []) (obs := []) hK rfl (fun _ => by kernel_rfl) trivial rfl rfl rfl ?_
                      clear hK a; intro a hK
                      refine st_op (d := 152) (v' := .bool ((stampS L.d t.t (aroundS (IntKind.i64.wrap (at_ + la)) l1 r1).1.1 (aroundS (IntKind.i64.wrap (at_ + la)) l1 r1).1.2).2.2 != 0)) (v := .bool (!((stampS L.d t.t (aroundS (IntKind.i64.wrap (at_ + la)) l1 r1).1.1 (aroundS (IntKind.i64.wrap (at_ + la)) l1 r1).1.2).2.2 == 0))) (vs := []) (obs := []) hK rfl (fun _ => by kernel_rfl) trivial rfl rfl rfl ?_
                      clear hK a; intro a hK
                      refine wpList_nil ?_
                      refine xt_norm ?_
                      have hc50 : (((stampS L.d t.t (aroundS (IntKind.i64.wrap (at_ + la)) l1 r1).1.1 (aroundS (IntKind.i64.wrap (at_ + la)) l1 r1).1.2).2.2 == 0)) = true := hcase
                      have hc50p := eq_of_beq hc50
                      have hmm := stamp_past hrp hc50p (by omega)
                      have hML := (rises_law hc50p).2.2.2.2.1
                      have hLSM41 := LdS.stamped hfew hsmt hc50p hM41
                      rw [← hM41] at hmm hML
                      replace hK := hK.sub (d := 152) (v' := .bool false) rfl (congrArg (fun b => Value.bool !b) hc50)
                      refine vc_cond (t := false) hK (fun _ => rfl) ?_
                      rw [if_neg (by simp)]
                      refine wp_skip ?_
                      refine xt_norm ?_
                      refine wp_seq ?_
                      refine wp_region_lit ?_
                      refine st_op (d := 155) (v' := .agg #[.int .i64 M41.last, .slice M41.sa M41.st.length M41.sc, .slice M41.oa M41.op.length M41.oc]) (vs := [.int .i64 M41.last, .slice M41.sa M41.st.length M41.sc, .slice M41.oa M41.op.length M41.oc]) (obs := [(⟨g44, 0, none⟩, .int .i64 M41.last), (⟨g44, 1, none⟩, .slice M41.sa M41.st.length M41.sc), (⟨g44, 2, none⟩, .slice M41.oa M41.op.length M41.oc)]) hK rfl (fun _ => by kernel_rfl) ⟨((hE.blk 1 rfl).cell 0).trans rfl, ((hE.blk 1 rfl).cell 1).trans rfl, ((hE.blk 1 rfl).cell 2).trans rfl, trivial⟩ rfl rfl rfl ?_
                      clear hK a; intro a hK
                      refine st_op (d := 156) (v' := .agg #[.int .i64 (aroundS (IntKind.i64.wrap ((IntKind.i64.wrap (at_ + la)) + lb)) l2 r2).1.1, .int .i64 (aroundS (IntKind.i64.wrap ((IntKind.i64.wrap (at_ + la)) + lb)) l2 r2).1.2]) (vs := [.int .i64 (aroundS (IntKind.i64.wrap ((IntKind.i64.wrap (at_ + la)) + lb)) l2 r2).1.1, .int .i64 (aroundS (IntKind.i64.wrap ((IntKind.i64.wrap (at_ + la)) + lb)) l2 r2).1.2]) (obs := [(⟨g30, 0, none⟩, .int .i64 (aroundS (IntKind.i64.wrap ((IntKind.i64.wrap (at_ + la)) + lb)) l2 r2).1.1), (⟨g30, 1, none⟩, .int .i64 (aroundS (IntKind.i64.wrap ((IntKind.i64.wrap (at_ + la)) + lb)) l2 r2).1.2)]) hK rfl (fun _ => by kernel_rfl) ⟨((hE.blk 5 rfl).cell 0).trans rfl, ((hE.blk 5 rfl).cell 1).trans rfl, trivial⟩ rfl rfl rfl ?_
                      clear hK a; intro a hK
                      refine st_call (d := 157) (f := 19) (args := #[.agg #[.int .i64 M41.last, .slice M41.sa M41.st.length M41.sc, .slice M41.oa M41.op.length M41.oc], .agg #[.int .i64 (aroundS (IntKind.i64.wrap ((IntKind.i64.wrap (at_ + la)) + lb)) l2 r2).1.1, .int .i64 (aroundS (IntKind.i64.wrap ((IntKind.i64.wrap (at_ + la)) + lb)) l2 r2).1.2]]) hK rfl (fun _ => by kernel_rfl) rfl rfl (show_any M41 (aroundS (IntKind.i64.wrap ((IntKind.i64.wrap (at_ + la)) + lb)) l2 r2).1.1 (aroundS (IntKind.i64.wrap ((IntKind.i64.wrap (at_ + la)) + lb)) l2 r2).1.2 _ hLSM41 (hE.get 3 rfl)) ?_
                      rintro e w55 ⟨M51, A52, c53, m54, rfl, hM51, hm51, hl51, ht51, hc51, hk51, hb⟩
                      refine ⟨_, rfl, ?_⟩
                      clear hK a; intro a hK
                      replace hE := hE.call hb
                      clear hb
                      replace hE := hE.dat (p := fun W => LdW W M51) (fun W hW => LdW.then_ hl51 hW)
                      replace hE := hE.dat (p := fun W => TS W A52 m54) (fun W hW => TS.then_ ht51 hW)
                      simp only [maxLen] at hk51
                      have hst := stable_law hrp hML hmm.1 hmm.2.1 ha3.2.2.2.2
                      have hLSM51 := LdS.shown hLSM41 hst.1 hM51
                      refine st_op (d := 154) (v' := .tuple #[.agg #[.int .i64 M51.last, .slice M51.sa M51.st.length M51.sc, .slice M51.oa M51.op.length M51.oc], .slice A52 m54.length c53, .int .i64 (showS M41.d (aroundS (IntKind.i64.wrap ((IntKind.i64.wrap (at_ + la)) + lb)) l2 r2).1.1 (aroundS (IntKind.i64.wrap ((IntKind.i64.wrap (at_ + la)) + lb)) l2 r2).1.2).2.2]) (vs := []) (obs := []) hK rfl (fun _ => by kernel_rfl) trivial rfl rfl rfl ?_
                      clear hK a; intro a hK
                      refine st_op (d := 158) (v' := .agg #[.int .i64 M51.last, .slice M51.sa M51.st.length M51.sc, .slice M51.oa M51.op.length M51.oc]) (vs := []) (obs := []) hK rfl (fun _ => by kernel_rfl) trivial rfl rfl rfl ?_
                      clear hK a; intro a hK
                      refine st_op (d := 159) (v' := .slice A52 m54.length c53) (vs := []) (obs := []) hK rfl (fun _ => by kernel_rfl) trivial rfl rfl rfl ?_
                      clear hK a; intro a hK
                      refine st_op (d := 160) (v' := .int .i64 (showS M41.d (aroundS (IntKind.i64.wrap ((IntKind.i64.wrap (at_ + la)) + lb)) l2 r2).1.1 (aroundS (IntKind.i64.wrap ((IntKind.i64.wrap (at_ + la)) + lb)) l2 r2).1.2).2.2) (vs := []) (obs := []) hK rfl (fun _ => by kernel_rfl) trivial rfl rfl rfl ?_
                      clear hK a; intro a hK
                      refine st_new (d := 30) (v := fun g => .pointer (some ⟨g, 0, none⟩)) (cs := #[.int .i64 0, .slice none 0 0, .slice none 0 0]) (t := 25) hK hE rfl (fun _ _ => by kernel_rfl) rfl rfl ?_
                      clear hK hE a; intro a g56 w57 _ _ hK hE
                      refine st_store2 0 [(0, .int .i64 M51.last), (1, .slice M51.sa M51.st.length M51.sc), (2, .slice M51.oa M51.op.length M51.oc)] hK hE rfl rfl (fun _ => by kernel_rfl) rfl rfl rfl ?_
                      clear hE; intro w58 hs_ hk_ hE
                      clear hs_ hk_
                      refine st_op (d := 31) (v' := .slice A52 m54.length c53) (vs := []) (obs := []) hK rfl (fun _ => by kernel_rfl) trivial rfl rfl rfl ?_
                      clear hK a; intro a hK
                      refine st_op (d := 32) (v' := .int .i64 (showS M41.d (aroundS (IntKind.i64.wrap ((IntKind.i64.wrap (at_ + la)) + lb)) l2 r2).1.1 (aroundS (IntKind.i64.wrap ((IntKind.i64.wrap (at_ + la)) + lb)) l2 r2).1.2).2.2) (vs := []) (obs := []) hK rfl (fun _ => by kernel_rfl) trivial rfl rfl rfl ?_
                      clear hK a; intro a hK
                      refine wpList_nil ?_
                      replace hK := hK.weak (K' := [(1, .int .i64 key), (2, .int .i64 ts), (8, .pointer (some ⟨g1, 0, none⟩)), (16, .bool false), (17, .bool true), (20, .pointer (some ⟨g26, 0, none⟩)), (22, .pointer (some ⟨g30, 0, none⟩)), (24, .pointer (some ⟨g37, 0, none⟩)), (25, .bool (readLL L.d key ts (aroundS at_ l0 r0).1.1 (aroundS at_ l0 r0).1.2).2.1), (27, .pointer (some ⟨g44, 0, none⟩)), (29, .int .i64 (stampS L.d t.t (aroundS (IntKind.i64.wrap (at_ + la)) l1 r1).1.1 (aroundS (IntKind.i64.wrap (at_ + la)) l1 r1).1.2).2.2), (30, .pointer (some ⟨g56, 0, none⟩)), (32, .int .i64 (showS M41.d (aroundS (IntKind.i64.wrap ((IntKind.i64.wrap (at_ + la)) + lb)) l2 r2).1.1 (aroundS (IntKind.i64.wrap ((IntKind.i64.wrap (at_ + la)) + lb)) l2 r2).1.2).2.2)]) ⟨rfl, rfl, rfl, rfl, rfl, rfl, rfl, rfl, rfl, rfl, rfl, rfl, rfl, trivial⟩
                      refine xt_norm ?_
                      refine wp_seq ?_
                      refine wp_region_lit ?_
                      refine st_op (d := 162) (v' := .agg #[.int .i64 M51.last, .slice M51.sa M51.st.length M51.sc, .slice M51.oa M51.op.length M51.oc]) (vs := [.int .i64 M51.last, .slice M51.sa M51.st.length M51.sc, .slice M51.oa M51.op.length M51.oc]) (obs := [(⟨g56, 0, none⟩, .int .i64 M51.last), (⟨g56, 1, none⟩, .slice M51.sa M51.st.length M51.sc), (⟨g56, 2, none⟩, .slice M51.oa M51.op.length M51.oc)]) hK rfl (fun _ => by kernel_rfl) ⟨((hE.blk 0 rfl).cell 0).trans rfl, ((hE.blk 0 rfl).cell 1).trans rfl, ((hE.blk 0 rfl).cell 2).trans rfl, trivial⟩ rfl rfl rfl ?_
                      clear hK a; intro a hK
                      refine st_op (d := 163) (v' := .int .i64 key) (vs := []) (obs := []) hK rfl (fun _ => by kernel_rfl) trivial rfl rfl rfl ?_
                      clear hK a; intro a hK
                      refine st_op (d := 164) (v' := .int .i64 ts) (vs := []) (obs := []) hK rfl (fun _ => by kernel_rfl) trivial rfl rfl rfl ?_
                      clear hK a; intro a hK
                      refine st_op (d := 165) (v' := .agg #[.int .i64 (aroundS (IntKind.i64.wrap ((IntKind.i64.wrap (at_ + la)) + lb)) l2 r2).1.1, .int .i64 (aroundS (IntKind.i64.wrap ((IntKind.i64.wrap (at_ + la)) + lb)) l2 r2).1.2]) (vs := [.int .i64 (aroundS (IntKind.i64.wrap ((IntKind.i64.wrap (at_ + la)) + lb)) l2 r2).1.1, .int .i64 (aroundS (IntKind.i64.wrap ((IntKind.i64.wrap (at_ + la)) + lb)) l2 r2).1.2]) (obs := [(⟨g30, 0, none⟩, .int .i64 (aroundS (IntKind.i64.wrap ((IntKind.i64.wrap (at_ + la)) + lb)) l2 r2).1.1), (⟨g30, 1, none⟩, .int .i64 (aroundS (IntKind.i64.wrap ((IntKind.i64.wrap (at_ + la)) + lb)) l2 r2).1.2)]) hK rfl (fun _ => by kernel_rfl) ⟨((hE.blk 8 rfl).cell 0).trans rfl, ((hE.blk 8 rfl).cell 1).trans rfl, trivial⟩ rfl rfl rfl ?_
                      clear hK a; intro a hK
                      refine st_call (d := 166) (f := 22) (args := #[.agg #[.int .i64 M51.last, .slice M51.sa M51.st.length M51.sc, .slice M51.oa M51.op.length M51.oc], .int .i64 key, .int .i64 ts, .agg #[.int .i64 (aroundS (IntKind.i64.wrap ((IntKind.i64.wrap (at_ + la)) + lb)) l2 r2).1.1, .int .i64 (aroundS (IntKind.i64.wrap ((IntKind.i64.wrap (at_ + la)) + lb)) l2 r2).1.2]]) hK rfl (fun _ => by kernel_rfl) rfl rfl (readL_any M51 key ts (aroundS (IntKind.i64.wrap ((IntKind.i64.wrap (at_ + la)) + lb)) l2 r2).1.1 (aroundS (IntKind.i64.wrap ((IntKind.i64.wrap (at_ + la)) + lb)) l2 r2).1.2 _ hLSM51 (hE.get 2 rfl)) ?_
                      rintro e w59 ⟨rfl, hb⟩
                      refine ⟨_, rfl, ?_⟩
                      clear hK a; intro a hK
                      replace hE := hE.call hb
                      clear hb
                      have hN1 : (readLL M51.d key ts (aroundS (IntKind.i64.wrap ((IntKind.i64.wrap (at_ + la)) + lb)) l2 r2).1.1 (aroundS (IntKind.i64.wrap ((IntKind.i64.wrap (at_ + la)) + lb)) l2 r2).1.2) = (readLL L.d key ts (aroundS at_ l0 r0).1.1 (aroundS at_ l0 r0).1.2) := by rw [hM51]; exact hst.2.1 (.inl hmm.2.2)
                      refine st_op (d := 161) (v' := .tuple #[.agg #[.int .i64 (readLL M51.d key ts (aroundS (IntKind.i64.wrap ((IntKind.i64.wrap (at_ + la)) + lb)) l2 r2).1.1 (aroundS (IntKind.i64.wrap ((IntKind.i64.wrap (at_ + la)) + lb)) l2 r2).1.2).1.key, .int .i64 (readLL M51.d key ts (aroundS (IntKind.i64.wrap ((IntKind.i64.wrap (at_ + la)) + lb)) l2 r2).1.1 (aroundS (IntKind.i64.wrap ((IntKind.i64.wrap (at_ + la)) + lb)) l2 r2).1.2).1.ts, .int .i64 (readLL M51.d key ts (aroundS (IntKind.i64.wrap ((IntKind.i64.wrap (at_ + la)) + lb)) l2 r2).1.1 (aroundS (IntKind.i64.wrap ((IntKind.i64.wrap (at_ + la)) + lb)) l2 r2).1.2).1.value, .bool (readLL M51.d key ts (aroundS (IntKind.i64.wrap ((IntKind.i64.wrap (at_ + la)) + lb)) l2 r2).1.1 (aroundS (IntKind.i64.wrap ((IntKind.i64.wrap (at_ + la)) + lb)) l2 r2).1.2).1.gone], .bool (readLL M51.d key ts (aroundS (IntKind.i64.wrap ((IntKind.i64.wrap (at_ + la)) + lb)) l2 r2).1.1 (aroundS (IntKind.i64.wrap ((IntKind.i64.wrap (at_ + la)) + lb)) l2 r2).1.2).2.1, .int .i64 (readLL M51.d key ts (aroundS (IntKind.i64.wrap ((IntKind.i64.wrap (at_ + la)) + lb)) l2 r2).1.1 (aroundS (IntKind.i64.wrap ((IntKind.i64.wrap (at_ + la)) + lb)) l2 r2).1.2).2.2]) (vs := []) (obs := []) hK rfl (fun _ => by kernel_rfl) trivial rfl rfl rfl ?_
                      clear hK a; intro a hK
                      refine st_op (d := 167) (v' := .agg #[.int .i64 (readLL M51.d key ts (aroundS (IntKind.i64.wrap ((IntKind.i64.wrap (at_ + la)) + lb)) l2 r2).1.1 (aroundS (IntKind.i64.wrap ((IntKind.i64.wrap (at_ + la)) + lb)) l2 r2).1.2).1.key, .int .i64 (readLL M51.d key ts (aroundS (IntKind.i64.wrap ((IntKind.i64.wrap (at_ + la)) + lb)) l2 r2).1.1 (aroundS (IntKind.i64.wrap ((IntKind.i64.wrap (at_ + la)) + lb)) l2 r2).1.2).1.ts, .int .i64 (readLL M51.d key ts (aroundS (IntKind.i64.wrap ((IntKind.i64.wrap (at_ + la)) + lb)) l2 r2).1.1 (aroundS (IntKind.i64.wrap ((IntKind.i64.wrap (at_ + la)) + lb)) l2 r2).1.2).1.value, .bool (readLL M51.d key ts (aroundS (IntKind.i64.wrap ((IntKind.i64.wrap (at_ + la)) + lb)) l2 r2).1.1 (aroundS (IntKind.i64.wrap ((IntKind.i64.wrap (at_ + la)) + lb)) l2 r2).1.2).1.gone]) (vs := []) (obs := []) hK rfl (fun _ => by kernel_rfl) trivial rfl rfl rfl ?_
                      clear hK a; intro a hK
                      refine st_op (d := 168) (v' := .bool (readLL M51.d key ts (aroundS (IntKind.i64.wrap ((IntKind.i64.wrap (at_ + la)) + lb)) l2 r2).1.1 (aroundS (IntKind.i64.wrap ((IntKind.i64.wrap (at_ + la)) + lb)) l2 r2).1.2).2.1) (vs := []) (obs := []) hK rfl (fun _ => by kernel_rfl) trivial rfl rfl rfl ?_
                      clear hK a; intro a hK
                      refine st_op (d := 169) (v' := .int .i64 (readLL M51.d key ts (aroundS (IntKind.i64.wrap ((IntKind.i64.wrap (at_ + la)) + lb)) l2 r2).1.1 (aroundS (IntKind.i64.wrap ((IntKind.i64.wrap (at_ + la)) + lb)) l2 r2).1.2).2.2) (vs := []) (obs := []) hK rfl (fun _ => by kernel_rfl) trivial rfl rfl rfl ?_
                      clear hK a; intro a hK
                      refine st_new (d := 33) (v := fun g => .pointer (some ⟨g, 0, none⟩)) (cs := #[.int .i64 0, .int .i64 0, .int .i64 0, .bool false]) (t := 44) hK hE rfl (fun _ _ => by kernel_rfl) rfl rfl ?_
                      clear hK hE a; intro a g60 w61 _ _ hK hE
                      refine st_store2 0 [(0, .int .i64 (readLL M51.d key ts (aroundS (IntKind.i64.wrap ((IntKind.i64.wrap (at_ + la)) + lb)) l2 r2).1.1 (aroundS (IntKind.i64.wrap ((IntKind.i64.wrap (at_ + la)) + lb)) l2 r2).1.2).1.key), (1, .int .i64 (readLL M51.d key ts (aroundS (IntKind.i64.wrap ((IntKind.i64.wrap (at_ + la)) + lb)) l2 r2).1.1 (aroundS (IntKind.i64.wrap ((IntKind.i64.wrap (at_ + la)) + lb)) l2 r2).1.2).1.ts), (2, .int .i64 (readLL M51.d key ts (aroundS (IntKind.i64.wrap ((IntKind.i64.wrap (at_ + la)) + lb)) l2 r2).1.1 (aroundS (IntKind.i64.wrap ((IntKind.i64.wrap (at_ + la)) + lb)) l2 r2).1.2).1.value), (3, .bool (readLL M51.d key ts (aroundS (IntKind.i64.wrap ((IntKind.i64.wrap (at_ + la)) + lb)) l2 r2).1.1 (aroundS (IntKind.i64.wrap ((IntKind.i64.wrap (at_ + la)) + lb)) l2 r2).1.2).1.gone)] hK hE rfl rfl (fun _ => by kernel_rfl) rfl rfl rfl ?_
                      clear hE; intro w62 hs_ hk_ hE
                      clear hs_ hk_
                      refine st_op (d := 34) (v' := .bool (readLL M51.d key ts (aroundS (IntKind.i64.wrap ((IntKind.i64.wrap (at_ + la)) + lb)) l2 r2).1.1 (aroundS (IntKind.i64.wrap ((IntKind.i64.wrap (at_ + la)) + lb)) l2 r2).1.2).2.1) (vs := []) (obs := []) hK rfl (fun _ => by kernel_rfl) trivial rfl rfl rfl ?_
                      clear hK a; intro a hK
                      refine st_op (d := 35) (v' := .int .i64 (readLL M51.d key ts (aroundS (IntKind.i64.wrap ((IntKind.i64.wrap (at_ + la)) + lb)) l2 r2).1.1 (aroundS (IntKind.i64.wrap ((IntKind.i64.wrap (at_ + la)) + lb)) l2 r2).1.2).2.2) (vs := []) (obs := []) hK rfl (fun _ => by kernel_rfl) trivial rfl rfl rfl ?_
                      clear hK a; intro a hK
                      refine wpList_nil ?_
                      refine xt_norm ?_
                      refine wp_seq ?_
                      refine wp_region_lit ?_
                      refine st_op (d := 171) (v' := .agg #[.int .i64 M41.last, .slice M41.sa M41.st.length M41.sc, .slice M41.oa M41.op.length M41.oc]) (vs := [.int .i64 M41.last, .slice M41.sa M41.st.length M41.sc, .slice M41.oa M41.op.length M41.oc]) (obs := [(⟨g44, 0, none⟩, .int .i64 M41.last), (⟨g44, 1, none⟩, .slice M41.sa M41.st.length M41.sc), (⟨g44, 2, none⟩, .slice M41.oa M41.op.length M41.oc)]) hK rfl (fun _ => by kernel_rfl) ⟨((hE.blk 5 rfl).cell 0).trans rfl, ((hE.blk 5 rfl).cell 1).trans rfl, ((hE.blk 5 rfl).cell 2).trans rfl, trivial⟩ rfl rfl rfl ?_
                      clear hK a; intro a hK
                      refine st_op (d := 172) (v' := .int .i64 key) (vs := []) (obs := []) hK rfl (fun _ => by kernel_rfl) trivial rfl rfl rfl ?_
                      clear hK a; intro a hK
                      refine st_op (d := 173) (v' := .int .i64 ts) (vs := []) (obs := []) hK rfl (fun _ => by kernel_rfl) trivial rfl rfl rfl ?_
                      clear hK a; intro a hK
                      refine st_op (d := 174) (v' := .agg #[.int .i64 (aroundS (IntKind.i64.wrap (at_ + la)) l1 r1).1.1, .int .i64 (aroundS (IntKind.i64.wrap (at_ + la)) l1 r1).1.2]) (vs := [.int .i64 (aroundS (IntKind.i64.wrap (at_ + la)) l1 r1).1.1, .int .i64 (aroundS (IntKind.i64.wrap (at_ + la)) l1 r1).1.2]) (obs := [(⟨g26, 0, none⟩, .int .i64 (aroundS (IntKind.i64.wrap (at_ + la)) l1 r1).1.1), (⟨g26, 1, none⟩, .int .i64 (aroundS (IntKind.i64.wrap (at_ + la)) l1 r1).1.2)]) hK rfl (fun _ => by kernel_rfl) ⟨((hE.blk 10 rfl).cell 0).trans rfl, ((hE.blk 10 rfl).cell 1).trans rfl, trivial⟩ rfl rfl rfl ?_
                      clear hK a; intro a hK
                      refine st_call (d := 175) (f := 22) (args := #[.agg #[.int .i64 M41.last, .slice M41.sa M41.st.length M41.sc, .slice M41.oa M41.op.length M41.oc], .int .i64 key, .int .i64 ts, .agg #[.int .i64 (aroundS (IntKind.i64.wrap (at_ + la)) l1 r1).1.1, .int .i64 (aroundS (IntKind.i64.wrap (at_ + la)) l1 r1).1.2]]) hK rfl (fun _ => by kernel_rfl) rfl rfl (readL_any M41 key ts (aroundS (IntKind.i64.wrap (at_ + la)) l1 r1).1.1 (aroundS (IntKind.i64.wrap (at_ + la)) l1 r1).1.2 _ hLSM41 (hE.get 7 rfl)) ?_
                      rintro e w63 ⟨rfl, hb⟩
                      refine ⟨_, rfl, ?_⟩
                      clear hK a; intro a hK
                      replace hE := hE.call hb
                      clear hb
                      have hN2 : (readLL M41.d key ts (aroundS (IntKind.i64.wrap (at_ + la)) l1 r1).1.1 (aroundS (IntKind.i64.wrap (at_ + la)) l1 r1).1.2) = (readLL L.d key ts (aroundS at_ l0 r0).1.1 (aroundS at_ l0 r0).1.2) := (stable_read hrp hML hmm.1 hmm.2.1 ha2.2.2.2.2).1 (.inl hmm.2.2)
                      refine st_op (d := 170) (v' := .tuple #[.agg #[.int .i64 (readLL M41.d key ts (aroundS (IntKind.i64.wrap (at_ + la)) l1 r1).1.1 (aroundS (IntKind.i64.wrap (at_ + la)) l1 r1).1.2).1.key, .int .i64 (readLL M41.d key ts (aroundS (IntKind.i64.wrap (at_ + la)) l1 r1).1.1 (aroundS (IntKind.i64.wrap (at_ + la)) l1 r1).1.2).1.ts, .int .i64 (readLL M41.d key ts (aroundS (IntKind.i64.wrap (at_ + la)) l1 r1).1.1 (aroundS (IntKind.i64.wrap (at_ + la)) l1 r1).1.2).1.value, .bool (readLL M41.d key ts (aroundS (IntKind.i64.wrap (at_ + la)) l1 r1).1.1 (aroundS (IntKind.i64.wrap (at_ + la)) l1 r1).1.2).1.gone], .bool (readLL M41.d key ts (aroundS (IntKind.i64.wrap (at_ + la)) l1 r1).1.1 (aroundS (IntKind.i64.wrap (at_ + la)) l1 r1).1.2).2.1, .int .i64 (readLL M41.d key ts (aroundS (IntKind.i64.wrap (at_ + la)) l1 r1).1.1 (aroundS (IntKind.i64.wrap (at_ + la)) l1 r1).1.2).2.2]) (vs := []) (obs := []) hK rfl (fun _ => by kernel_rfl) trivial rfl rfl rfl ?_
                      clear hK a; intro a hK
                      refine st_op (d := 176) (v' := .agg #[.int .i64 (readLL M41.d key ts (aroundS (IntKind.i64.wrap (at_ + la)) l1 r1).1.1 (aroundS (IntKind.i64.wrap (at_ + la)) l1 r1).1.2).1.key, .int .i64 (readLL M41.d key ts (aroundS (IntKind.i64.wrap (at_ + la)) l1 r1).1.1 (aroundS (IntKind.i64.wrap (at_ + la)) l1 r1).1.2).1.ts, .int .i64 (readLL M41.d key ts (aroundS (IntKind.i64.wrap (at_ + la)) l1 r1).1.1 (aroundS (IntKind.i64.wrap (at_ + la)) l1 r1).1.2).1.value, .bool (readLL M41.d key ts (aroundS (IntKind.i64.wrap (at_ + la)) l1 r1).1.1 (aroundS (IntKind.i64.wrap (at_ + la)) l1 r1).1.2).1.gone]) (vs := []) (obs := []) hK rfl (fun _ => by kernel_rfl) trivial rfl rfl rfl ?_
                      clear hK a; intro a hK
                      refine st_op (d := 177) (v' := .bool (readLL M41.d key ts (aroundS (IntKind.i64.wrap (at_ + la)) l1 r1).1.1 (aroundS (IntKind.i64.wrap (at_ + la)) l1 r1).1.2).2.1) (vs := []) (obs := []) hK rfl (fun _ => by kernel_rfl) trivial rfl rfl rfl ?_
                      clear hK a; intro a hK
                      refine st_op (d := 178) (v' := .int .i64 (readLL M41.d key ts (aroundS (IntKind.i64.wrap (at_ + la)) l1 r1).1.1 (aroundS (IntKind.i64.wrap (at_ + la)) l1 r1).1.2).2.2) (vs := []) (obs := []) hK rfl (fun _ => by kernel_rfl) trivial rfl rfl rfl ?_
                      clear hK a; intro a hK
                      refine st_new (d := 36) (v := fun g => .pointer (some ⟨g, 0, none⟩)) (cs := #[.int .i64 0, .int .i64 0, .int .i64 0, .bool false]) (t := 44) hK hE rfl (fun _ _ => by kernel_rfl) rfl rfl ?_
                      clear hK hE a; intro a g64 w65 _ _ hK hE
                      refine st_store2 0 [(0, .int .i64 (readLL M41.d key ts (aroundS (IntKind.i64.wrap (at_ + la)) l1 r1).1.1 (aroundS (IntKind.i64.wrap (at_ + la)) l1 r1).1.2).1.key), (1, .int .i64 (readLL M41.d key ts (aroundS (IntKind.i64.wrap (at_ + la)) l1 r1).1.1 (aroundS (IntKind.i64.wrap (at_ + la)) l1 r1).1.2).1.ts), (2, .int .i64 (readLL M41.d key ts (aroundS (IntKind.i64.wrap (at_ + la)) l1 r1).1.1 (aroundS (IntKind.i64.wrap (at_ + la)) l1 r1).1.2).1.value), (3, .bool (readLL M41.d key ts (aroundS (IntKind.i64.wrap (at_ + la)) l1 r1).1.1 (aroundS (IntKind.i64.wrap (at_ + la)) l1 r1).1.2).1.gone)] hK hE rfl rfl (fun _ => by kernel_rfl) rfl rfl rfl ?_
                      clear hE; intro w66 hs_ hk_ hE
                      clear hs_ hk_
                      refine st_op (d := 37) (v' := .bool (readLL M41.d key ts (aroundS (IntKind.i64.wrap (at_ + la)) l1 r1).1.1 (aroundS (IntKind.i64.wrap (at_ + la)) l1 r1).1.2).2.1) (vs := []) (obs := []) hK rfl (fun _ => by kernel_rfl) trivial rfl rfl rfl ?_
                      clear hK a; intro a hK
                      refine st_op (d := 38) (v' := .int .i64 (readLL M41.d key ts (aroundS (IntKind.i64.wrap (at_ + la)) l1 r1).1.1 (aroundS (IntKind.i64.wrap (at_ + la)) l1 r1).1.2).2.2) (vs := []) (obs := []) hK rfl (fun _ => by kernel_rfl) trivial rfl rfl rfl ?_
                      clear hK a; intro a hK
                      refine wpList_nil ?_
                      replace hK := hK.weak (K' := [(2, .int .i64 ts), (8, .pointer (some ⟨g1, 0, none⟩)), (16, .bool false), (17, .bool true), (20, .pointer (some ⟨g26, 0, none⟩)), (22, .pointer (some ⟨g30, 0, none⟩)), (24, .pointer (some ⟨g37, 0, none⟩)), (25, .bool (readLL L.d key ts (aroundS at_ l0 r0).1.1 (aroundS at_ l0 r0).1.2).2.1), (29, .int .i64 (stampS L.d t.t (aroundS (IntKind.i64.wrap (at_ + la)) l1 r1).1.1 (aroundS (IntKind.i64.wrap (at_ + la)) l1 r1).1.2).2.2), (32, .int .i64 (showS M41.d (aroundS (IntKind.i64.wrap ((IntKind.i64.wrap (at_ + la)) + lb)) l2 r2).1.1 (aroundS (IntKind.i64.wrap ((IntKind.i64.wrap (at_ + la)) + lb)) l2 r2).1.2).2.2), (33, .pointer (some ⟨g60, 0, none⟩)), (34, .bool (readLL M51.d key ts (aroundS (IntKind.i64.wrap ((IntKind.i64.wrap (at_ + la)) + lb)) l2 r2).1.1 (aroundS (IntKind.i64.wrap ((IntKind.i64.wrap (at_ + la)) + lb)) l2 r2).1.2).2.1), (35, .int .i64 (readLL M51.d key ts (aroundS (IntKind.i64.wrap ((IntKind.i64.wrap (at_ + la)) + lb)) l2 r2).1.1 (aroundS (IntKind.i64.wrap ((IntKind.i64.wrap (at_ + la)) + lb)) l2 r2).1.2).2.2), (36, .pointer (some ⟨g64, 0, none⟩)), (37, .bool (readLL M41.d key ts (aroundS (IntKind.i64.wrap (at_ + la)) l1 r1).1.1 (aroundS (IntKind.i64.wrap (at_ + la)) l1 r1).1.2).2.1), (38, .int .i64 (readLL M41.d key ts (aroundS (IntKind.i64.wrap (at_ + la)) l1 r1).1.1 (aroundS (IntKind.i64.wrap (at_ + la)) l1 r1).1.2).2.2)]) ⟨rfl, rfl, rfl, rfl, rfl, rfl, rfl, rfl, rfl, rfl, rfl, rfl, rfl, rfl, rfl, rfl, trivial⟩
                      refine xt_norm ?_
                      refine wp_seq ?_
                      refine wp_seq ?_
                      refine wp_region_lit ?_
                      refine st_op (d := 179) (v' := .int .i64 (showS M41.d (aroundS (IntKind.i64.wrap ((IntKind.i64.wrap (at_ + la)) + lb)) l2 r2).1.1 (aroundS (IntKind.i64.wrap ((IntKind.i64.wrap (at_ + la)) + lb)) l2 r2).1.2).2.2) (vs := []) (obs := []) hK rfl (fun _ => by kernel_rfl) trivial rfl rfl rfl ?_
                      clear hK a; intro a hK
                      refine st_op (d := 180) (v' := .bool ((showS M41.d (aroundS (IntKind.i64.wrap ((IntKind.i64.wrap (at_ + la)) + lb)) l2 r2).1.1 (aroundS (IntKind.i64.wrap ((IntKind.i64.wrap (at_ + la)) + lb)) l2 r2).1.2).2.2 != 0)) (v := .bool (!((showS M41.d (aroundS (IntKind.i64.wrap ((IntKind.i64.wrap (at_ + la)) + lb)) l2 r2).1.1 (aroundS (IntKind.i64.wrap ((IntKind.i64.wrap (at_ + la)) + lb)) l2 r2).1.2).2.2 == 0))) (vs := []) (obs := []) hK rfl (fun _ => by kernel_rfl) trivial rfl rfl rfl ?_
                      clear hK a; intro a hK
                      refine wpList_nil ?_
                      refine xt_norm ?_
                      have hd67 : (((showS M41.d (aroundS (IntKind.i64.wrap ((IntKind.i64.wrap (at_ + la)) + lb)) l2 r2).1.1 (aroundS (IntKind.i64.wrap ((IntKind.i64.wrap (at_ + la)) + lb)) l2 r2).1.2).2.2 == 0)) = true := beq_iff_eq.2 hst.1
                      replace hK := hK.sub (d := 180) (v' := .bool false) rfl (congrArg (fun b => Value.bool !b) hd67)
                      refine vc_cond (t := false) hK (fun _ => rfl) ?_
                      rw [if_neg (by simp)]
                      refine wp_skip ?_
                      refine xt_norm ?_
                      refine wp_seq ?_
                      refine wp_region_lit ?_
                      refine st_op (d := 181) (v' := .int .i64 ts) (vs := []) (obs := []) hK rfl (fun _ => by kernel_rfl) trivial rfl rfl rfl ?_
                      clear hK a; intro a hK
                      refine st_op (d := 182) (v' := .pointer (some ⟨g1, 0, none⟩)) (vs := []) (obs := []) hK rfl (fun _ => by kernel_rfl) trivial rfl rfl rfl ?_
                      clear hK a; intro a hK
                      refine st_op (d := 183) (v' := .int .i64 L.last) (vs := [.int .i64 L.last]) (obs := [(⟨g1, 0, none⟩, .int .i64 L.last)]) hK rfl (fun _ => by kernel_rfl) ⟨((hE.blk 18 rfl).cell 0).trans rfl, trivial⟩ rfl rfl rfl ?_
                      clear hK a; intro a hK
                      refine st_op (d := 184) (v' := .bool (decide (ts > L.last))) (vs := []) (obs := []) hK rfl (fun _ => by kernel_rfl) trivial rfl rfl rfl ?_
                      clear hK a; intro a hK
                      refine st_op (d := 185) (v' := .bool (decide (ts > L.last))) (vs := []) (obs := []) hK rfl (fun _ => by kernel_rfl) trivial rfl rfl rfl ?_
                      clear hK a; intro a hK
                      rcases Bool.eq_false_or_eq_true (decide (ts > L.last)) with hc68 | hc68
                      · have hc68p := of_decide_eq_true hc68
                        replace hK := hK.sub (d := 185) (v' := .bool true) rfl (congrArg Value.bool hc68)
                        refine st_op (d := 186) (v' := .int .i64 ts) (vs := []) (obs := []) hK rfl (fun _ => by kernel_rfl) trivial rfl rfl rfl ?_
                        clear hK a; intro a hK
                        refine st_op (d := 187) (v' := .pointer (some ⟨g30, 0, none⟩)) (vs := []) (obs := []) hK rfl (fun _ => by kernel_rfl) trivial rfl rfl rfl ?_
                        clear hK a; intro a hK
                        refine st_op (d := 188) (v' := .int .i64 (aroundS (IntKind.i64.wrap ((IntKind.i64.wrap (at_ + la)) + lb)) l2 r2).1.1) (vs := [.int .i64 (aroundS (IntKind.i64.wrap ((IntKind.i64.wrap (at_ + la)) + lb)) l2 r2).1.1]) (obs := [(⟨g30, 0, none⟩, .int .i64 (aroundS (IntKind.i64.wrap ((IntKind.i64.wrap (at_ + la)) + lb)) l2 r2).1.1)]) hK rfl (fun _ => by kernel_rfl) ⟨((hE.blk 10 rfl).cell 0).trans rfl, trivial⟩ rfl rfl rfl ?_
                        clear hK a; intro a hK
                        refine st_op (d := 189) (v' := .bool (decide (ts ≥ (aroundS (IntKind.i64.wrap ((IntKind.i64.wrap (at_ + la)) + lb)) l2 r2).1.1))) (vs := []) (obs := []) hK rfl (fun _ => by kernel_rfl) trivial rfl rfl rfl ?_
                        clear hK a; intro a hK
                        refine st_op (d := 190) (v' := .bool (decide (ts ≥ (aroundS (IntKind.i64.wrap ((IntKind.i64.wrap (at_ + la)) + lb)) l2 r2).1.1))) (vs := []) (obs := []) hK rfl (fun _ => by kernel_rfl) trivial rfl rfl rfl ?_
                        clear hK a; intro a hK
                        refine st_op (d := 191) (v' := .bool (decide (ts ≥ (aroundS (IntKind.i64.wrap ((IntKind.i64.wrap (at_ + la)) + lb)) l2 r2).1.1))) (vs := []) (obs := []) hK rfl (fun _ => by kernel_rfl) trivial rfl rfl rfl ?_
                        clear hK a; intro a hK
                        rcases Bool.eq_false_or_eq_true (decide (ts ≥ (aroundS (IntKind.i64.wrap ((IntKind.i64.wrap (at_ + la)) + lb)) l2 r2).1.1)) with hc69 | hc69
                        · have hc69p := of_decide_eq_true hc69
                          replace hK := hK.sub (d := 191) (v' := .bool true) rfl (congrArg Value.bool hc69)
                          refine st_op (d := 192) (v' := .int .i64 (stampS L.d t.t (aroundS (IntKind.i64.wrap (at_ + la)) l1 r1).1.1 (aroundS (IntKind.i64.wrap (at_ + la)) l1 r1).1.2).2.2) (vs := []) (obs := []) hK rfl (fun _ => by kernel_rfl) trivial rfl rfl rfl ?_
                          clear hK a; intro a hK
                          refine st_op (d := 193) (v' := .bool ((stampS L.d t.t (aroundS (IntKind.i64.wrap (at_ + la)) l1 r1).1.1 (aroundS (IntKind.i64.wrap (at_ + la)) l1 r1).1.2).2.2 != 0)) (v := .bool (!((stampS L.d t.t (aroundS (IntKind.i64.wrap (at_ + la)) l1 r1).1.1 (aroundS (IntKind.i64.wrap (at_ + la)) l1 r1).1.2).2.2 == 0))) (vs := []) (obs := []) hK rfl (fun _ => by kernel_rfl) trivial rfl rfl rfl ?_
                          clear hK a; intro a hK
                          refine st_op (d := 194) (v' := .bool (!((stampS L.d t.t (aroundS (IntKind.i64.wrap (at_ + la)) l1 r1).1.1 (aroundS (IntKind.i64.wrap (at_ + la)) l1 r1).1.2).2.2 == 0))) (vs := []) (obs := []) hK rfl (fun _ => by kernel_rfl) trivial rfl rfl rfl ?_
                          clear hK a; intro a hK
                          refine st_op (d := 39) (v' := .bool (!((stampS L.d t.t (aroundS (IntKind.i64.wrap (at_ + la)) l1 r1).1.1 (aroundS (IntKind.i64.wrap (at_ + la)) l1 r1).1.2).2.2 == 0))) (vs := []) (obs := []) hK rfl (fun _ => by kernel_rfl) trivial rfl rfl rfl ?_
                          clear hK a; intro a hK
                          refine wpList_nil ?_
                          replace hK := hK.weak (K' := [(2, .int .i64 ts), (8, .pointer (some ⟨g1, 0, none⟩)), (16, .bool false), (17, .bool true), (20, .pointer (some ⟨g26, 0, none⟩)), (24, .pointer (some ⟨g37, 0, none⟩)), (25, .bool (readLL L.d key ts (aroundS at_ l0 r0).1.1 (aroundS at_ l0 r0).1.2).2.1), (29, .int .i64 (stampS L.d t.t (aroundS (IntKind.i64.wrap (at_ + la)) l1 r1).1.1 (aroundS (IntKind.i64.wrap (at_ + la)) l1 r1).1.2).2.2), (33, .pointer (some ⟨g60, 0, none⟩)), (34, .bool (readLL M51.d key ts (aroundS (IntKind.i64.wrap ((IntKind.i64.wrap (at_ + la)) + lb)) l2 r2).1.1 (aroundS (IntKind.i64.wrap ((IntKind.i64.wrap (at_ + la)) + lb)) l2 r2).1.2).2.1), (35, .int .i64 (readLL M51.d key ts (aroundS (IntKind.i64.wrap ((IntKind.i64.wrap (at_ + la)) + lb)) l2 r2).1.1 (aroundS (IntKind.i64.wrap ((IntKind.i64.wrap (at_ + la)) + lb)) l2 r2).1.2).2.2), (36, .pointer (some ⟨g64, 0, none⟩)), (37, .bool (readLL M41.d key ts (aroundS (IntKind.i64.wrap (at_ + la)) l1 r1).1.1 (aroundS (IntKind.i64.wrap (at_ + la)) l1 r1).1.2).2.1), (38, .int .i64 (readLL M41.d key ts (aroundS (IntKind.i64.wrap (at_ + la)) l1 r1).1.1 (aroundS (IntKind.i64.wrap (at_ + la)) l1 r1).1.2).2.2), (39, .bool (!((stampS L.d t.t (aroundS (IntKind.i64.wrap (at_ + la)) l1 r1).1.1 (aroundS (IntKind.i64.wrap (at_ + la)) l1 r1).1.2).2.2 == 0)))]) ⟨rfl, rfl, rfl, rfl, rfl, rfl, rfl, rfl, rfl, rfl, rfl, rfl, rfl, rfl, rfl, trivial⟩
                          refine xt_norm ?_
                          refine wp_seq ?_
                          refine wp_region_lit ?_
                          refine st_op (d := 195) (v' := .int .i64 ts) (vs := []) (obs := []) hK rfl (fun _ => by kernel_rfl) trivial rfl rfl rfl ?_
                          clear hK a; intro a hK
                          refine st_op (d := 196) (v' := .pointer (some ⟨g1, 0, none⟩)) (vs := []) (obs := []) hK rfl (fun _ => by kernel_rfl) trivial rfl rfl rfl ?_
                          clear hK a; intro a hK
                          refine st_op (d := 197) (v' := .int .i64 L.last) (vs := [.int .i64 L.last]) (obs := [(⟨g1, 0, none⟩, .int .i64 L.last)]) hK rfl (fun _ => by kernel_rfl) ⟨((hE.blk 18 rfl).cell 0).trans rfl, trivial⟩ rfl rfl rfl ?_
                          clear hK a; intro a hK
                          refine st_op (d := 198) (v' := .bool (decide (ts > L.last))) (vs := []) (obs := []) hK rfl (fun _ => by kernel_rfl) trivial rfl rfl rfl ?_
                          clear hK a; intro a hK
                          refine st_op (d := 199) (v' := .bool (decide (ts > L.last))) (vs := []) (obs := []) hK rfl (fun _ => by kernel_rfl) trivial rfl rfl rfl ?_
                          clear hK a; intro a hK
                          replace hK := hK.sub (d := 199) (v' := .bool true) rfl (congrArg Value.bool hc68)
                          refine st_op (d := 200) (v' := .int .i64 ts) (vs := []) (obs := []) hK rfl (fun _ => by kernel_rfl) trivial rfl rfl rfl ?_
                          clear hK a; intro a hK
                          refine st_op (d := 201) (v' := .pointer (some ⟨g26, 0, none⟩)) (vs := []) (obs := []) hK rfl (fun _ => by kernel_rfl) trivial rfl rfl rfl ?_
                          clear hK a; intro a hK
                          refine st_op (d := 202) (v' := .int .i64 (aroundS (IntKind.i64.wrap (at_ + la)) l1 r1).1.1) (vs := [.int .i64 (aroundS (IntKind.i64.wrap (at_ + la)) l1 r1).1.1]) (obs := [(⟨g26, 0, none⟩, .int .i64 (aroundS (IntKind.i64.wrap (at_ + la)) l1 r1).1.1)]) hK rfl (fun _ => by kernel_rfl) ⟨((hE.blk 11 rfl).cell 0).trans rfl, trivial⟩ rfl rfl rfl ?_
                          clear hK a; intro a hK
                          refine st_op (d := 203) (v' := .bool (decide (ts ≥ (aroundS (IntKind.i64.wrap (at_ + la)) l1 r1).1.1))) (vs := []) (obs := []) hK rfl (fun _ => by kernel_rfl) trivial rfl rfl rfl ?_
                          clear hK a; intro a hK
                          refine st_op (d := 204) (v' := .bool (decide (ts ≥ (aroundS (IntKind.i64.wrap (at_ + la)) l1 r1).1.1))) (vs := []) (obs := []) hK rfl (fun _ => by kernel_rfl) trivial rfl rfl rfl ?_
                          clear hK a; intro a hK
                          refine st_op (d := 205) (v' := .bool (decide (ts ≥ (aroundS (IntKind.i64.wrap (at_ + la)) l1 r1).1.1))) (vs := []) (obs := []) hK rfl (fun _ => by kernel_rfl) trivial rfl rfl rfl ?_
                          clear hK a; intro a hK
                          rcases Bool.eq_false_or_eq_true (decide (ts ≥ (aroundS (IntKind.i64.wrap (at_ + la)) l1 r1).1.1)) with hc70 | hc70
                          · have hc70p := of_decide_eq_true hc70
                            replace hK := hK.sub (d := 205) (v' := .bool true) rfl (congrArg Value.bool hc70)
                            refine st_op (d := 206) (v' := .int .i64 (stampS L.d t.t (aroundS (IntKind.i64.wrap (at_ + la)) l1 r1).1.1 (aroundS (IntKind.i64.wrap (at_ + la)) l1 r1).1.2).2.2) (vs := []) (obs := []) hK rfl (fun _ => by kernel_rfl) trivial rfl rfl rfl ?_
                            clear hK a; intro a hK
                            refine st_op (d := 207) (v' := .bool ((stampS L.d t.t (aroundS (IntKind.i64.wrap (at_ + la)) l1 r1).1.1 (aroundS (IntKind.i64.wrap (at_ + la)) l1 r1).1.2).2.2 != 0)) (v := .bool (!((stampS L.d t.t (aroundS (IntKind.i64.wrap (at_ + la)) l1 r1).1.1 (aroundS (IntKind.i64.wrap (at_ + la)) l1 r1).1.2).2.2 == 0))) (vs := []) (obs := []) hK rfl (fun _ => by kernel_rfl) trivial rfl rfl rfl ?_
                            clear hK a; intro a hK
                            refine st_op (d := 208) (v' := .bool (!((stampS L.d t.t (aroundS (IntKind.i64.wrap (at_ + la)) l1 r1).1.1 (aroundS (IntKind.i64.wrap (at_ + la)) l1 r1).1.2).2.2 == 0))) (vs := []) (obs := []) hK rfl (fun _ => by kernel_rfl) trivial rfl rfl rfl ?_
                            clear hK a; intro a hK
                            refine st_op (d := 40) (v' := .bool (!((stampS L.d t.t (aroundS (IntKind.i64.wrap (at_ + la)) l1 r1).1.1 (aroundS (IntKind.i64.wrap (at_ + la)) l1 r1).1.2).2.2 == 0))) (vs := []) (obs := []) hK rfl (fun _ => by kernel_rfl) trivial rfl rfl rfl ?_
                            clear hK a; intro a hK
                            refine wpList_nil ?_
                            refine xt_norm ?_
                            refine wp_seq ?_
                            refine wp_region_lit ?_
                            refine st_op (d := 209) (v' := .bool true) (vs := []) (obs := []) hK rfl (fun _ => by kernel_rfl) trivial rfl rfl rfl ?_
                            clear hK a; intro a hK
                            refine st_op (d := 210) (v' := .bool true) (vs := []) (obs := []) hK rfl (fun _ => by kernel_rfl) trivial rfl rfl rfl ?_
                            clear hK a; intro a hK
                            refine st_op (d := 211) (v' := .int .i64 (readLL M51.d key ts (aroundS (IntKind.i64.wrap ((IntKind.i64.wrap (at_ + la)) + lb)) l2 r2).1.1 (aroundS (IntKind.i64.wrap ((IntKind.i64.wrap (at_ + la)) + lb)) l2 r2).1.2).2.2) (vs := []) (obs := []) hK rfl (fun _ => by kernel_rfl) trivial rfl rfl rfl ?_
                            clear hK a; intro a hK
                            refine st_op (d := 212) (v' := .bool ((readLL M51.d key ts (aroundS (IntKind.i64.wrap ((IntKind.i64.wrap (at_ + la)) + lb)) l2 r2).1.1 (aroundS (IntKind.i64.wrap ((IntKind.i64.wrap (at_ + la)) + lb)) l2 r2).1.2).2.2 == 0)) (vs := []) (obs := []) hK rfl (fun _ => by kernel_rfl) trivial rfl rfl rfl ?_
                            clear hK a; intro a hK
                            refine st_op (d := 213) (v' := .bool ((readLL M51.d key ts (aroundS (IntKind.i64.wrap ((IntKind.i64.wrap (at_ + la)) + lb)) l2 r2).1.1 (aroundS (IntKind.i64.wrap ((IntKind.i64.wrap (at_ + la)) + lb)) l2 r2).1.2).2.2 == 0)) (vs := []) (obs := []) hK rfl (fun _ => by kernel_rfl) trivial rfl rfl rfl ?_
                            clear hK a; intro a hK
                            have hd71 : (((readLL M51.d key ts (aroundS (IntKind.i64.wrap ((IntKind.i64.wrap (at_ + la)) + lb)) l2 r2).1.1 (aroundS (IntKind.i64.wrap ((IntKind.i64.wrap (at_ + la)) + lb)) l2 r2).1.2).2.2 == 0)) = true := by rw [hN1]; exact hc40
                            replace hK := hK.sub (d := 213) (v' := .bool true) rfl (congrArg Value.bool hd71)
                            refine st_op (d := 214) (v' := .agg #[.int .i64 (readLL L.d key ts (aroundS at_ l0 r0).1.1 (aroundS at_ l0 r0).1.2).1.key, .int .i64 (readLL L.d key ts (aroundS at_ l0 r0).1.1 (aroundS at_ l0 r0).1.2).1.ts, .int .i64 (readLL L.d key ts (aroundS at_ l0 r0).1.1 (aroundS at_ l0 r0).1.2).1.value, .bool (readLL L.d key ts (aroundS at_ l0 r0).1.1 (aroundS at_ l0 r0).1.2).1.gone]) (vs := [.int .i64 (readLL L.d key ts (aroundS at_ l0 r0).1.1 (aroundS at_ l0 r0).1.2).1.key, .int .i64 (readLL L.d key ts (aroundS at_ l0 r0).1.1 (aroundS at_ l0 r0).1.2).1.ts, .int .i64 (readLL L.d key ts (aroundS at_ l0 r0).1.1 (aroundS at_ l0 r0).1.2).1.value, .bool (readLL L.d key ts (aroundS at_ l0 r0).1.1 (aroundS at_ l0 r0).1.2).1.gone]) (obs := [(⟨g37, 0, none⟩, .int .i64 (readLL L.d key ts (aroundS at_ l0 r0).1.1 (aroundS at_ l0 r0).1.2).1.key), (⟨g37, 1, none⟩, .int .i64 (readLL L.d key ts (aroundS at_ l0 r0).1.1 (aroundS at_ l0 r0).1.2).1.ts), (⟨g37, 2, none⟩, .int .i64 (readLL L.d key ts (aroundS at_ l0 r0).1.1 (aroundS at_ l0 r0).1.2).1.value), (⟨g37, 3, none⟩, .bool (readLL L.d key ts (aroundS at_ l0 r0).1.1 (aroundS at_ l0 r0).1.2).1.gone)]) hK rfl (fun _ => by kernel_rfl) ⟨((hE.blk 9 rfl).cell 0).trans rfl, ((hE.blk 9 rfl).cell 1).trans rfl, ((hE.blk 9 rfl).cell 2).trans rfl, ((hE.blk 9 rfl).cell 3).trans rfl, trivial⟩ rfl rfl rfl ?_
                            clear hK a; intro a hK
                            refine st_op (d := 215) (v' := .agg #[.int .i64 (readLL M51.d key ts (aroundS (IntKind.i64.wrap ((IntKind.i64.wrap (at_ + la)) + lb)) l2 r2).1.1 (aroundS (IntKind.i64.wrap ((IntKind.i64.wrap (at_ + la)) + lb)) l2 r2).1.2).1.key, .int .i64 (readLL M51.d key ts (aroundS (IntKind.i64.wrap ((IntKind.i64.wrap (at_ + la)) + lb)) l2 r2).1.1 (aroundS (IntKind.i64.wrap ((IntKind.i64.wrap (at_ + la)) + lb)) l2 r2).1.2).1.ts, .int .i64 (readLL M51.d key ts (aroundS (IntKind.i64.wrap ((IntKind.i64.wrap (at_ + la)) + lb)) l2 r2).1.1 (aroundS (IntKind.i64.wrap ((IntKind.i64.wrap (at_ + la)) + lb)) l2 r2).1.2).1.value, .bool (readLL M51.d key ts (aroundS (IntKind.i64.wrap ((IntKind.i64.wrap (at_ + la)) + lb)) l2 r2).1.1 (aroundS (IntKind.i64.wrap ((IntKind.i64.wrap (at_ + la)) + lb)) l2 r2).1.2).1.gone]) (vs := [.int .i64 (readLL M51.d key ts (aroundS (IntKind.i64.wrap ((IntKind.i64.wrap (at_ + la)) + lb)) l2 r2).1.1 (aroundS (IntKind.i64.wrap ((IntKind.i64.wrap (at_ + la)) + lb)) l2 r2).1.2).1.key, .int .i64 (readLL M51.d key ts (aroundS (IntKind.i64.wrap ((IntKind.i64.wrap (at_ + la)) + lb)) l2 r2).1.1 (aroundS (IntKind.i64.wrap ((IntKind.i64.wrap (at_ + la)) + lb)) l2 r2).1.2).1.ts, .int .i64 (readLL M51.d key ts (aroundS (IntKind.i64.wrap ((IntKind.i64.wrap (at_ + la)) + lb)) l2 r2).1.1 (aroundS (IntKind.i64.wrap ((IntKind.i64.wrap (at_ + la)) + lb)) l2 r2).1.2).1.value, .bool (readLL M51.d key ts (aroundS (IntKind.i64.wrap ((IntKind.i64.wrap (at_ + la)) + lb)) l2 r2).1.1 (aroundS (IntKind.i64.wrap ((IntKind.i64.wrap (at_ + la)) + lb)) l2 r2).1.2).1.gone]) (obs := [(⟨g60, 0, none⟩, .int .i64 (readLL M51.d key ts (aroundS (IntKind.i64.wrap ((IntKind.i64.wrap (at_ + la)) + lb)) l2 r2).1.1 (aroundS (IntKind.i64.wrap ((IntKind.i64.wrap (at_ + la)) + lb)) l2 r2).1.2).1.key), (⟨g60, 1, none⟩, .int .i64 (readLL M51.d key ts (aroundS (IntKind.i64.wrap ((IntKind.i64.wrap (at_ + la)) + lb)) l2 r2).1.1 (aroundS (IntKind.i64.wrap ((IntKind.i64.wrap (at_ + la)) + lb)) l2 r2).1.2).1.ts), (⟨g60, 2, none⟩, .int .i64 (readLL M51.d key ts (aroundS (IntKind.i64.wrap ((IntKind.i64.wrap (at_ + la)) + lb)) l2 r2).1.1 (aroundS (IntKind.i64.wrap ((IntKind.i64.wrap (at_ + la)) + lb)) l2 r2).1.2).1.value), (⟨g60, 3, none⟩, .bool (readLL M51.d key ts (aroundS (IntKind.i64.wrap ((IntKind.i64.wrap (at_ + la)) + lb)) l2 r2).1.1 (aroundS (IntKind.i64.wrap ((IntKind.i64.wrap (at_ + la)) + lb)) l2 r2).1.2).1.gone)]) hK rfl (fun _ => by kernel_rfl) ⟨((hE.blk 1 rfl).cell 0).trans rfl, ((hE.blk 1 rfl).cell 1).trans rfl, ((hE.blk 1 rfl).cell 2).trans rfl, ((hE.blk 1 rfl).cell 3).trans rfl, trivial⟩ rfl rfl rfl ?_
                            clear hK a; intro a hK
                            refine st_run (d := 216) (v' := .bool (eqB (readLL L.d key ts (aroundS at_ l0 r0).1.1 (aroundS at_ l0 r0).1.2).1.key (readLL L.d key ts (aroundS at_ l0 r0).1.1 (aroundS at_ l0 r0).1.2).1.ts (readLL L.d key ts (aroundS at_ l0 r0).1.1 (aroundS at_ l0 r0).1.2).1.value (readLL L.d key ts (aroundS at_ l0 r0).1.1 (aroundS at_ l0 r0).1.2).1.gone (readLL M51.d key ts (aroundS (IntKind.i64.wrap ((IntKind.i64.wrap (at_ + la)) + lb)) l2 r2).1.1 (aroundS (IntKind.i64.wrap ((IntKind.i64.wrap (at_ + la)) + lb)) l2 r2).1.2).1.key (readLL M51.d key ts (aroundS (IntKind.i64.wrap ((IntKind.i64.wrap (at_ + la)) + lb)) l2 r2).1.1 (aroundS (IntKind.i64.wrap ((IntKind.i64.wrap (at_ + la)) + lb)) l2 r2).1.2).1.ts (readLL M51.d key ts (aroundS (IntKind.i64.wrap ((IntKind.i64.wrap (at_ + la)) + lb)) l2 r2).1.1 (aroundS (IntKind.i64.wrap ((IntKind.i64.wrap (at_ + la)) + lb)) l2 r2).1.2).1.value (readLL M51.d key ts (aroundS (IntKind.i64.wrap ((IntKind.i64.wrap (at_ + la)) + lb)) l2 r2).1.1 (aroundS (IntKind.i64.wrap ((IntKind.i64.wrap (at_ + la)) + lb)) l2 r2).1.2).1.gone)) hK rfl (ex_eq rfl (fun _ => rfl) (fun _ => rfl) (by kernel_rfl) (fun W => eqlV (readLL L.d key ts (aroundS at_ l0 r0).1.1 (aroundS at_ l0 r0).1.2).1.key (readLL L.d key ts (aroundS at_ l0 r0).1.1 (aroundS at_ l0 r0).1.2).1.ts (readLL L.d key ts (aroundS at_ l0 r0).1.1 (aroundS at_ l0 r0).1.2).1.value (readLL M51.d key ts (aroundS (IntKind.i64.wrap ((IntKind.i64.wrap (at_ + la)) + lb)) l2 r2).1.1 (aroundS (IntKind.i64.wrap ((IntKind.i64.wrap (at_ + la)) + lb)) l2 r2).1.2).1.key (readLL M51.d key ts (aroundS (IntKind.i64.wrap ((IntKind.i64.wrap (at_ + la)) + lb)) l2 r2).1.1 (aroundS (IntKind.i64.wrap ((IntKind.i64.wrap (at_ + la)) + lb)) l2 r2).1.2).1.ts (readLL M51.d key ts (aroundS (IntKind.i64.wrap ((IntKind.i64.wrap (at_ + la)) + lb)) l2 r2).1.1 (aroundS (IntKind.i64.wrap ((IntKind.i64.wrap (at_ + la)) + lb)) l2 r2).1.2).1.value (readLL L.d key ts (aroundS at_ l0 r0).1.1 (aroundS at_ l0 r0).1.2).1.gone (readLL M51.d key ts (aroundS (IntKind.i64.wrap ((IntKind.i64.wrap (at_ + la)) + lb)) l2 r2).1.1 (aroundS (IntKind.i64.wrap ((IntKind.i64.wrap (at_ + la)) + lb)) l2 r2).1.2).1.gone W)) rfl rfl rfl ?_
                            clear hK a; intro a hK
                            refine st_op (d := 217) (v' := .bool (eqB (readLL L.d key ts (aroundS at_ l0 r0).1.1 (aroundS at_ l0 r0).1.2).1.key (readLL L.d key ts (aroundS at_ l0 r0).1.1 (aroundS at_ l0 r0).1.2).1.ts (readLL L.d key ts (aroundS at_ l0 r0).1.1 (aroundS at_ l0 r0).1.2).1.value (readLL L.d key ts (aroundS at_ l0 r0).1.1 (aroundS at_ l0 r0).1.2).1.gone (readLL M51.d key ts (aroundS (IntKind.i64.wrap ((IntKind.i64.wrap (at_ + la)) + lb)) l2 r2).1.1 (aroundS (IntKind.i64.wrap ((IntKind.i64.wrap (at_ + la)) + lb)) l2 r2).1.2).1.key (readLL M51.d key ts (aroundS (IntKind.i64.wrap ((IntKind.i64.wrap (at_ + la)) + lb)) l2 r2).1.1 (aroundS (IntKind.i64.wrap ((IntKind.i64.wrap (at_ + la)) + lb)) l2 r2).1.2).1.ts (readLL M51.d key ts (aroundS (IntKind.i64.wrap ((IntKind.i64.wrap (at_ + la)) + lb)) l2 r2).1.1 (aroundS (IntKind.i64.wrap ((IntKind.i64.wrap (at_ + la)) + lb)) l2 r2).1.2).1.value (readLL M51.d key ts (aroundS (IntKind.i64.wrap ((IntKind.i64.wrap (at_ + la)) + lb)) l2 r2).1.1 (aroundS (IntKind.i64.wrap ((IntKind.i64.wrap (at_ + la)) + lb)) l2 r2).1.2).1.gone)) (vs := []) (obs := []) hK rfl (fun _ => by kernel_rfl) trivial rfl rfl rfl ?_
                            clear hK a; intro a hK
                            refine st_op (d := 218) (v' := .bool (eqB (readLL L.d key ts (aroundS at_ l0 r0).1.1 (aroundS at_ l0 r0).1.2).1.key (readLL L.d key ts (aroundS at_ l0 r0).1.1 (aroundS at_ l0 r0).1.2).1.ts (readLL L.d key ts (aroundS at_ l0 r0).1.1 (aroundS at_ l0 r0).1.2).1.value (readLL L.d key ts (aroundS at_ l0 r0).1.1 (aroundS at_ l0 r0).1.2).1.gone (readLL M51.d key ts (aroundS (IntKind.i64.wrap ((IntKind.i64.wrap (at_ + la)) + lb)) l2 r2).1.1 (aroundS (IntKind.i64.wrap ((IntKind.i64.wrap (at_ + la)) + lb)) l2 r2).1.2).1.key (readLL M51.d key ts (aroundS (IntKind.i64.wrap ((IntKind.i64.wrap (at_ + la)) + lb)) l2 r2).1.1 (aroundS (IntKind.i64.wrap ((IntKind.i64.wrap (at_ + la)) + lb)) l2 r2).1.2).1.ts (readLL M51.d key ts (aroundS (IntKind.i64.wrap ((IntKind.i64.wrap (at_ + la)) + lb)) l2 r2).1.1 (aroundS (IntKind.i64.wrap ((IntKind.i64.wrap (at_ + la)) + lb)) l2 r2).1.2).1.value (readLL M51.d key ts (aroundS (IntKind.i64.wrap ((IntKind.i64.wrap (at_ + la)) + lb)) l2 r2).1.1 (aroundS (IntKind.i64.wrap ((IntKind.i64.wrap (at_ + la)) + lb)) l2 r2).1.2).1.gone)) (vs := []) (obs := []) hK rfl (fun _ => by kernel_rfl) trivial rfl rfl rfl ?_
                            clear hK a; intro a hK
                            have hd72 : (eqB (readLL L.d key ts (aroundS at_ l0 r0).1.1 (aroundS at_ l0 r0).1.2).1.key (readLL L.d key ts (aroundS at_ l0 r0).1.1 (aroundS at_ l0 r0).1.2).1.ts (readLL L.d key ts (aroundS at_ l0 r0).1.1 (aroundS at_ l0 r0).1.2).1.value (readLL L.d key ts (aroundS at_ l0 r0).1.1 (aroundS at_ l0 r0).1.2).1.gone (readLL M51.d key ts (aroundS (IntKind.i64.wrap ((IntKind.i64.wrap (at_ + la)) + lb)) l2 r2).1.1 (aroundS (IntKind.i64.wrap ((IntKind.i64.wrap (at_ + la)) + lb)) l2 r2).1.2).1.key (readLL M51.d key ts (aroundS (IntKind.i64.wrap ((IntKind.i64.wrap (at_ + la)) + lb)) l2 r2).1.1 (aroundS (IntKind.i64.wrap ((IntKind.i64.wrap (at_ + la)) + lb)) l2 r2).1.2).1.ts (readLL M51.d key ts (aroundS (IntKind.i64.wrap ((IntKind.i64.wrap (at_ + la)) + lb)) l2 r2).1.1 (aroundS (IntKind.i64.wrap ((IntKind.i64.wrap (at_ + la)) + lb)) l2 r2).1.2).1.value (readLL M51.d key ts (aroundS (IntKind.i64.wrap ((IntKind.i64.wrap (at_ + la)) + lb)) l2 r2).1.1 (aroundS (IntKind.i64.wrap ((IntKind.i64.wrap (at_ + la)) + lb)) l2 r2).1.2).1.gone) = true := by rw [hN1]; exact decide_eq_true rfl
                            replace hK := hK.sub (d := 218) (v' := .bool true) rfl (congrArg Value.bool hd72)
                            refine st_op (d := 219) (v' := .bool (readLL L.d key ts (aroundS at_ l0 r0).1.1 (aroundS at_ l0 r0).1.2).2.1) (vs := []) (obs := []) hK rfl (fun _ => by kernel_rfl) trivial rfl rfl rfl ?_
                            clear hK a; intro a hK
                            refine st_op (d := 220) (v' := .bool (readLL M51.d key ts (aroundS (IntKind.i64.wrap ((IntKind.i64.wrap (at_ + la)) + lb)) l2 r2).1.1 (aroundS (IntKind.i64.wrap ((IntKind.i64.wrap (at_ + la)) + lb)) l2 r2).1.2).2.1) (vs := []) (obs := []) hK rfl (fun _ => by kernel_rfl) trivial rfl rfl rfl ?_
                            clear hK a; intro a hK
                            refine st_op (d := 221) (v' := .bool ((readLL L.d key ts (aroundS at_ l0 r0).1.1 (aroundS at_ l0 r0).1.2).2.1 == (readLL M51.d key ts (aroundS (IntKind.i64.wrap ((IntKind.i64.wrap (at_ + la)) + lb)) l2 r2).1.1 (aroundS (IntKind.i64.wrap ((IntKind.i64.wrap (at_ + la)) + lb)) l2 r2).1.2).2.1)) (vs := []) (obs := []) hK rfl (fun _ => by kernel_rfl) trivial rfl rfl rfl ?_
                            clear hK a; intro a hK
                            refine st_op (d := 222) (v' := .bool ((readLL L.d key ts (aroundS at_ l0 r0).1.1 (aroundS at_ l0 r0).1.2).2.1 == (readLL M51.d key ts (aroundS (IntKind.i64.wrap ((IntKind.i64.wrap (at_ + la)) + lb)) l2 r2).1.1 (aroundS (IntKind.i64.wrap ((IntKind.i64.wrap (at_ + la)) + lb)) l2 r2).1.2).2.1)) (vs := []) (obs := []) hK rfl (fun _ => by kernel_rfl) trivial rfl rfl rfl ?_
                            clear hK a; intro a hK
                            refine st_op (d := 223) (v' := .bool ((readLL L.d key ts (aroundS at_ l0 r0).1.1 (aroundS at_ l0 r0).1.2).2.1 == (readLL M51.d key ts (aroundS (IntKind.i64.wrap ((IntKind.i64.wrap (at_ + la)) + lb)) l2 r2).1.1 (aroundS (IntKind.i64.wrap ((IntKind.i64.wrap (at_ + la)) + lb)) l2 r2).1.2).2.1)) (vs := []) (obs := []) hK rfl (fun _ => by kernel_rfl) trivial rfl rfl rfl ?_
                            clear hK a; intro a hK
                            have hd73 : (((readLL L.d key ts (aroundS at_ l0 r0).1.1 (aroundS at_ l0 r0).1.2).2.1 == (readLL M51.d key ts (aroundS (IntKind.i64.wrap ((IntKind.i64.wrap (at_ + la)) + lb)) l2 r2).1.1 (aroundS (IntKind.i64.wrap ((IntKind.i64.wrap (at_ + la)) + lb)) l2 r2).1.2).2.1)) = true := by rw [hN1]; exact beq_self_eq_true _
                            replace hK := hK.sub (d := 223) (v' := .bool true) rfl (congrArg Value.bool hd73)
                            refine st_skip (d := 224) hK rfl rfl rfl ?_
                            clear hK a; intro a hK
                            refine st_skip (d := 225) hK rfl rfl rfl ?_
                            clear hK a; intro a hK
                            refine st_skip (d := 226) hK rfl rfl rfl ?_
                            clear hK a; intro a hK
                            refine st_skip (d := 227) hK rfl rfl rfl ?_
                            clear hK a; intro a hK
                            refine st_skip (d := 228) hK rfl rfl rfl ?_
                            clear hK a; intro a hK
                            refine st_op (d := 229) (v' := .bool true) (vs := []) (obs := []) hK rfl (fun _ => by kernel_rfl) trivial rfl rfl rfl ?_
                            clear hK a; intro a hK
                            refine st_op (d := 230) (v' := .bool true) (vs := []) (obs := []) hK rfl (fun _ => by kernel_rfl) trivial rfl rfl rfl ?_
                            clear hK a; intro a hK
                            refine st_op (d := 231) (v' := .bool true) (vs := []) (obs := []) hK rfl (fun _ => by kernel_rfl) trivial rfl rfl rfl ?_
                            clear hK a; intro a hK
                            refine st_op (d := 232) (v' := .int .i64 (readLL M41.d key ts (aroundS (IntKind.i64.wrap (at_ + la)) l1 r1).1.1 (aroundS (IntKind.i64.wrap (at_ + la)) l1 r1).1.2).2.2) (vs := []) (obs := []) hK rfl (fun _ => by kernel_rfl) trivial rfl rfl rfl ?_
                            clear hK a; intro a hK
                            refine st_op (d := 233) (v' := .bool ((readLL M41.d key ts (aroundS (IntKind.i64.wrap (at_ + la)) l1 r1).1.1 (aroundS (IntKind.i64.wrap (at_ + la)) l1 r1).1.2).2.2 == 0)) (vs := []) (obs := []) hK rfl (fun _ => by kernel_rfl) trivial rfl rfl rfl ?_
                            clear hK a; intro a hK
                            refine st_op (d := 234) (v' := .bool ((readLL M41.d key ts (aroundS (IntKind.i64.wrap (at_ + la)) l1 r1).1.1 (aroundS (IntKind.i64.wrap (at_ + la)) l1 r1).1.2).2.2 == 0)) (vs := []) (obs := []) hK rfl (fun _ => by kernel_rfl) trivial rfl rfl rfl ?_
                            clear hK a; intro a hK
                            have hd74 : (((readLL M41.d key ts (aroundS (IntKind.i64.wrap (at_ + la)) l1 r1).1.1 (aroundS (IntKind.i64.wrap (at_ + la)) l1 r1).1.2).2.2 == 0)) = true := by rw [hN2]; exact hc40
                            replace hK := hK.sub (d := 234) (v' := .bool true) rfl (congrArg Value.bool hd74)
                            refine st_op (d := 235) (v' := .agg #[.int .i64 (readLL L.d key ts (aroundS at_ l0 r0).1.1 (aroundS at_ l0 r0).1.2).1.key, .int .i64 (readLL L.d key ts (aroundS at_ l0 r0).1.1 (aroundS at_ l0 r0).1.2).1.ts, .int .i64 (readLL L.d key ts (aroundS at_ l0 r0).1.1 (aroundS at_ l0 r0).1.2).1.value, .bool (readLL L.d key ts (aroundS at_ l0 r0).1.1 (aroundS at_ l0 r0).1.2).1.gone]) (vs := [.int .i64 (readLL L.d key ts (aroundS at_ l0 r0).1.1 (aroundS at_ l0 r0).1.2).1.key, .int .i64 (readLL L.d key ts (aroundS at_ l0 r0).1.1 (aroundS at_ l0 r0).1.2).1.ts, .int .i64 (readLL L.d key ts (aroundS at_ l0 r0).1.1 (aroundS at_ l0 r0).1.2).1.value, .bool (readLL L.d key ts (aroundS at_ l0 r0).1.1 (aroundS at_ l0 r0).1.2).1.gone]) (obs := [(⟨g37, 0, none⟩, .int .i64 (readLL L.d key ts (aroundS at_ l0 r0).1.1 (aroundS at_ l0 r0).1.2).1.key), (⟨g37, 1, none⟩, .int .i64 (readLL L.d key ts (aroundS at_ l0 r0).1.1 (aroundS at_ l0 r0).1.2).1.ts), (⟨g37, 2, none⟩, .int .i64 (readLL L.d key ts (aroundS at_ l0 r0).1.1 (aroundS at_ l0 r0).1.2).1.value), (⟨g37, 3, none⟩, .bool (readLL L.d key ts (aroundS at_ l0 r0).1.1 (aroundS at_ l0 r0).1.2).1.gone)]) hK rfl (fun _ => by kernel_rfl) ⟨((hE.blk 9 rfl).cell 0).trans rfl, ((hE.blk 9 rfl).cell 1).trans rfl, ((hE.blk 9 rfl).cell 2).trans rfl, ((hE.blk 9 rfl).cell 3).trans rfl, trivial⟩ rfl rfl rfl ?_
                            clear hK a; intro a hK
                            refine st_op (d := 236) (v' := .agg #[.int .i64 (readLL M41.d key ts (aroundS (IntKind.i64.wrap (at_ + la)) l1 r1).1.1 (aroundS (IntKind.i64.wrap (at_ + la)) l1 r1).1.2).1.key, .int .i64 (readLL M41.d key ts (aroundS (IntKind.i64.wrap (at_ + la)) l1 r1).1.1 (aroundS (IntKind.i64.wrap (at_ + la)) l1 r1).1.2).1.ts, .int .i64 (readLL M41.d key ts (aroundS (IntKind.i64.wrap (at_ + la)) l1 r1).1.1 (aroundS (IntKind.i64.wrap (at_ + la)) l1 r1).1.2).1.value, .bool (readLL M41.d key ts (aroundS (IntKind.i64.wrap (at_ + la)) l1 r1).1.1 (aroundS (IntKind.i64.wrap (at_ + la)) l1 r1).1.2).1.gone]) (vs := [.int .i64 (readLL M41.d key ts (aroundS (IntKind.i64.wrap (at_ + la)) l1 r1).1.1 (aroundS (IntKind.i64.wrap (at_ + la)) l1 r1).1.2).1.key, .int .i64 (readLL M41.d key ts (aroundS (IntKind.i64.wrap (at_ + la)) l1 r1).1.1 (aroundS (IntKind.i64.wrap (at_ + la)) l1 r1).1.2).1.ts, .int .i64 (readLL M41.d key ts (aroundS (IntKind.i64.wrap (at_ + la)) l1 r1).1.1 (aroundS (IntKind.i64.wrap (at_ + la)) l1 r1).1.2).1.value, .bool (readLL M41.d key ts (aroundS (IntKind.i64.wrap (at_ + la)) l1 r1).1.1 (aroundS (IntKind.i64.wrap (at_ + la)) l1 r1).1.2).1.gone]) (obs := [(⟨g64, 0, none⟩, .int .i64 (readLL M41.d key ts (aroundS (IntKind.i64.wrap (at_ + la)) l1 r1).1.1 (aroundS (IntKind.i64.wrap (at_ + la)) l1 r1).1.2).1.key), (⟨g64, 1, none⟩, .int .i64 (readLL M41.d key ts (aroundS (IntKind.i64.wrap (at_ + la)) l1 r1).1.1 (aroundS (IntKind.i64.wrap (at_ + la)) l1 r1).1.2).1.ts), (⟨g64, 2, none⟩, .int .i64 (readLL M41.d key ts (aroundS (IntKind.i64.wrap (at_ + la)) l1 r1).1.1 (aroundS (IntKind.i64.wrap (at_ + la)) l1 r1).1.2).1.value), (⟨g64, 3, none⟩, .bool (readLL M41.d key ts (aroundS (IntKind.i64.wrap (at_ + la)) l1 r1).1.1 (aroundS (IntKind.i64.wrap (at_ + la)) l1 r1).1.2).1.gone)]) hK rfl (fun _ => by kernel_rfl) ⟨((hE.blk 0 rfl).cell 0).trans rfl, ((hE.blk 0 rfl).cell 1).trans rfl, ((hE.blk 0 rfl).cell 2).trans rfl, ((hE.blk 0 rfl).cell 3).trans rfl, trivial⟩ rfl rfl rfl ?_
                            clear hK a; intro a hK
                            refine st_run (d := 237) (v' := .bool (eqB (readLL L.d key ts (aroundS at_ l0 r0).1.1 (aroundS at_ l0 r0).1.2).1.key (readLL L.d key ts (aroundS at_ l0 r0).1.1 (aroundS at_ l0 r0).1.2).1.ts (readLL L.d key ts (aroundS at_ l0 r0).1.1 (aroundS at_ l0 r0).1.2).1.value (readLL L.d key ts (aroundS at_ l0 r0).1.1 (aroundS at_ l0 r0).1.2).1.gone (readLL M41.d key ts (aroundS (IntKind.i64.wrap (at_ + la)) l1 r1).1.1 (aroundS (IntKind.i64.wrap (at_ + la)) l1 r1).1.2).1.key (readLL M41.d key ts (aroundS (IntKind.i64.wrap (at_ + la)) l1 r1).1.1 (aroundS (IntKind.i64.wrap (at_ + la)) l1 r1).1.2).1.ts (readLL M41.d key ts (aroundS (IntKind.i64.wrap (at_ + la)) l1 r1).1.1 (aroundS (IntKind.i64.wrap (at_ + la)) l1 r1).1.2).1.value (readLL M41.d key ts (aroundS (IntKind.i64.wrap (at_ + la)) l1 r1).1.1 (aroundS (IntKind.i64.wrap (at_ + la)) l1 r1).1.2).1.gone)) hK rfl (ex_eq rfl (fun _ => rfl) (fun _ => rfl) (by kernel_rfl) (fun W => eqlV (readLL L.d key ts (aroundS at_ l0 r0).1.1 (aroundS at_ l0 r0).1.2).1.key (readLL L.d key ts (aroundS at_ l0 r0).1.1 (aroundS at_ l0 r0).1.2).1.ts (readLL L.d key ts (aroundS at_ l0 r0).1.1 (aroundS at_ l0 r0).1.2).1.value (readLL M41.d key ts (aroundS (IntKind.i64.wrap (at_ + la)) l1 r1).1.1 (aroundS (IntKind.i64.wrap (at_ + la)) l1 r1).1.2).1.key (readLL M41.d key ts (aroundS (IntKind.i64.wrap (at_ + la)) l1 r1).1.1 (aroundS (IntKind.i64.wrap (at_ + la)) l1 r1).1.2).1.ts (readLL M41.d key ts (aroundS (IntKind.i64.wrap (at_ + la)) l1 r1).1.1 (aroundS (IntKind.i64.wrap (at_ + la)) l1 r1).1.2).1.value (readLL L.d key ts (aroundS at_ l0 r0).1.1 (aroundS at_ l0 r0).1.2).1.gone (readLL M41.d key ts (aroundS (IntKind.i64.wrap (at_ + la)) l1 r1).1.1 (aroundS (IntKind.i64.wrap (at_ + la)) l1 r1).1.2).1.gone W)) rfl rfl rfl ?_
                            clear hK a; intro a hK
                            refine st_op (d := 238) (v' := .bool (eqB (readLL L.d key ts (aroundS at_ l0 r0).1.1 (aroundS at_ l0 r0).1.2).1.key (readLL L.d key ts (aroundS at_ l0 r0).1.1 (aroundS at_ l0 r0).1.2).1.ts (readLL L.d key ts (aroundS at_ l0 r0).1.1 (aroundS at_ l0 r0).1.2).1.value (readLL L.d key ts (aroundS at_ l0 r0).1.1 (aroundS at_ l0 r0).1.2).1.gone (readLL M41.d key ts (aroundS (IntKind.i64.wrap (at_ + la)) l1 r1).1.1 (aroundS (IntKind.i64.wrap (at_ + la)) l1 r1).1.2).1.key (readLL M41.d key ts (aroundS (IntKind.i64.wrap (at_ + la)) l1 r1).1.1 (aroundS (IntKind.i64.wrap (at_ + la)) l1 r1).1.2).1.ts (readLL M41.d key ts (aroundS (IntKind.i64.wrap (at_ + la)) l1 r1).1.1 (aroundS (IntKind.i64.wrap (at_ + la)) l1 r1).1.2).1.value (readLL M41.d key ts (aroundS (IntKind.i64.wrap (at_ + la)) l1 r1).1.1 (aroundS (IntKind.i64.wrap (at_ + la)) l1 r1).1.2).1.gone)) (vs := []) (obs := []) hK rfl (fun _ => by kernel_rfl) trivial rfl rfl rfl ?_
                            clear hK a; intro a hK
                            refine st_op (d := 239) (v' := .bool (eqB (readLL L.d key ts (aroundS at_ l0 r0).1.1 (aroundS at_ l0 r0).1.2).1.key (readLL L.d key ts (aroundS at_ l0 r0).1.1 (aroundS at_ l0 r0).1.2).1.ts (readLL L.d key ts (aroundS at_ l0 r0).1.1 (aroundS at_ l0 r0).1.2).1.value (readLL L.d key ts (aroundS at_ l0 r0).1.1 (aroundS at_ l0 r0).1.2).1.gone (readLL M41.d key ts (aroundS (IntKind.i64.wrap (at_ + la)) l1 r1).1.1 (aroundS (IntKind.i64.wrap (at_ + la)) l1 r1).1.2).1.key (readLL M41.d key ts (aroundS (IntKind.i64.wrap (at_ + la)) l1 r1).1.1 (aroundS (IntKind.i64.wrap (at_ + la)) l1 r1).1.2).1.ts (readLL M41.d key ts (aroundS (IntKind.i64.wrap (at_ + la)) l1 r1).1.1 (aroundS (IntKind.i64.wrap (at_ + la)) l1 r1).1.2).1.value (readLL M41.d key ts (aroundS (IntKind.i64.wrap (at_ + la)) l1 r1).1.1 (aroundS (IntKind.i64.wrap (at_ + la)) l1 r1).1.2).1.gone)) (vs := []) (obs := []) hK rfl (fun _ => by kernel_rfl) trivial rfl rfl rfl ?_
                            clear hK a; intro a hK
                            have hd75 : (eqB (readLL L.d key ts (aroundS at_ l0 r0).1.1 (aroundS at_ l0 r0).1.2).1.key (readLL L.d key ts (aroundS at_ l0 r0).1.1 (aroundS at_ l0 r0).1.2).1.ts (readLL L.d key ts (aroundS at_ l0 r0).1.1 (aroundS at_ l0 r0).1.2).1.value (readLL L.d key ts (aroundS at_ l0 r0).1.1 (aroundS at_ l0 r0).1.2).1.gone (readLL M41.d key ts (aroundS (IntKind.i64.wrap (at_ + la)) l1 r1).1.1 (aroundS (IntKind.i64.wrap (at_ + la)) l1 r1).1.2).1.key (readLL M41.d key ts (aroundS (IntKind.i64.wrap (at_ + la)) l1 r1).1.1 (aroundS (IntKind.i64.wrap (at_ + la)) l1 r1).1.2).1.ts (readLL M41.d key ts (aroundS (IntKind.i64.wrap (at_ + la)) l1 r1).1.1 (aroundS (IntKind.i64.wrap (at_ + la)) l1 r1).1.2).1.value (readLL M41.d key ts (aroundS (IntKind.i64.wrap (at_ + la)) l1 r1).1.1 (aroundS (IntKind.i64.wrap (at_ + la)) l1 r1).1.2).1.gone) = true := by rw [hN2]; exact decide_eq_true rfl
                            replace hK := hK.sub (d := 239) (v' := .bool true) rfl (congrArg Value.bool hd75)
                            refine st_op (d := 240) (v' := .bool (readLL L.d key ts (aroundS at_ l0 r0).1.1 (aroundS at_ l0 r0).1.2).2.1) (vs := []) (obs := []) hK rfl (fun _ => by kernel_rfl) trivial rfl rfl rfl ?_
                            clear hK a; intro a hK
                            refine st_op (d := 241) (v' := .bool (readLL M41.d key ts (aroundS (IntKind.i64.wrap (at_ + la)) l1 r1).1.1 (aroundS (IntKind.i64.wrap (at_ + la)) l1 r1).1.2).2.1) (vs := []) (obs := []) hK rfl (fun _ => by kernel_rfl) trivial rfl rfl rfl ?_
                            clear hK a; intro a hK
                            refine st_op (d := 242) (v' := .bool ((readLL L.d key ts (aroundS at_ l0 r0).1.1 (aroundS at_ l0 r0).1.2).2.1 == (readLL M41.d key ts (aroundS (IntKind.i64.wrap (at_ + la)) l1 r1).1.1 (aroundS (IntKind.i64.wrap (at_ + la)) l1 r1).1.2).2.1)) (vs := []) (obs := []) hK rfl (fun _ => by kernel_rfl) trivial rfl rfl rfl ?_
                            clear hK a; intro a hK
                            refine st_op (d := 243) (v' := .bool ((readLL L.d key ts (aroundS at_ l0 r0).1.1 (aroundS at_ l0 r0).1.2).2.1 == (readLL M41.d key ts (aroundS (IntKind.i64.wrap (at_ + la)) l1 r1).1.1 (aroundS (IntKind.i64.wrap (at_ + la)) l1 r1).1.2).2.1)) (vs := []) (obs := []) hK rfl (fun _ => by kernel_rfl) trivial rfl rfl rfl ?_
                            clear hK a; intro a hK
                            refine st_op (d := 244) (v' := .bool ((readLL L.d key ts (aroundS at_ l0 r0).1.1 (aroundS at_ l0 r0).1.2).2.1 == (readLL M41.d key ts (aroundS (IntKind.i64.wrap (at_ + la)) l1 r1).1.1 (aroundS (IntKind.i64.wrap (at_ + la)) l1 r1).1.2).2.1)) (vs := []) (obs := []) hK rfl (fun _ => by kernel_rfl) trivial rfl rfl rfl ?_
                            clear hK a; intro a hK
                            have hd76 : (((readLL L.d key ts (aroundS at_ l0 r0).1.1 (aroundS at_ l0 r0).1.2).2.1 == (readLL M41.d key ts (aroundS (IntKind.i64.wrap (at_ + la)) l1 r1).1.1 (aroundS (IntKind.i64.wrap (at_ + la)) l1 r1).1.2).2.1)) = true := by rw [hN2]; exact beq_self_eq_true _
                            replace hK := hK.sub (d := 244) (v' := .bool true) rfl (congrArg Value.bool hd76)
                            refine st_skip (d := 245) hK rfl rfl rfl ?_
                            clear hK a; intro a hK
                            refine st_skip (d := 246) hK rfl rfl rfl ?_
                            clear hK a; intro a hK
                            refine st_skip (d := 247) hK rfl rfl rfl ?_
                            clear hK a; intro a hK
                            refine st_skip (d := 248) hK rfl rfl rfl ?_
                            clear hK a; intro a hK
                            refine st_skip (d := 249) hK rfl rfl rfl ?_
                            clear hK a; intro a hK
                            refine st_op (d := 250) (v' := .bool true) (vs := []) (obs := []) hK rfl (fun _ => by kernel_rfl) trivial rfl rfl rfl ?_
                            clear hK a; intro a hK
                            refine st_op (d := 251) (v' := .bool true) (vs := []) (obs := []) hK rfl (fun _ => by kernel_rfl) trivial rfl rfl rfl ?_
                            clear hK a; intro a hK
                            refine st_op (d := 16) (v' := .bool true) (vs := []) (obs := []) hK rfl (fun _ => by kernel_rfl) trivial rfl rfl rfl ?_
                            clear hK a; intro a hK
                            refine wpList_nil ?_
                            replace hK := hK.weak (K' := [(16, .bool true)]) ⟨rfl, trivial⟩
                            refine xt_norm ?_
                            refine wp_ret ?_
                            refine vc_ret (v' := .bool true) (vs := []) (obs := []) hK (fun _ => by kernel_rfl) trivial rfl ?_
                            exact ⟨rfl, hE.b⟩
                          · have hc70p := of_decide_eq_false hc70
                            replace hK := hK.sub (d := 205) (v' := .bool false) rfl (congrArg Value.bool hc70)
                            refine st_skip (d := 206) hK rfl rfl rfl ?_
                            clear hK a; intro a hK
                            refine st_skip (d := 207) hK rfl rfl rfl ?_
                            clear hK a; intro a hK
                            refine st_op (d := 208) (v' := .bool false) (vs := []) (obs := []) hK rfl (fun _ => by kernel_rfl) trivial rfl rfl rfl ?_
                            clear hK a; intro a hK
                            refine st_op (d := 40) (v' := .bool false) (vs := []) (obs := []) hK rfl (fun _ => by kernel_rfl) trivial rfl rfl rfl ?_
                            clear hK a; intro a hK
                            refine wpList_nil ?_
                            refine xt_norm ?_
                            refine wp_seq ?_
                            refine wp_region_lit ?_
                            refine st_op (d := 209) (v' := .bool true) (vs := []) (obs := []) hK rfl (fun _ => by kernel_rfl) trivial rfl rfl rfl ?_
                            clear hK a; intro a hK
                            refine st_op (d := 210) (v' := .bool true) (vs := []) (obs := []) hK rfl (fun _ => by kernel_rfl) trivial rfl rfl rfl ?_
                            clear hK a; intro a hK
                            refine st_op (d := 211) (v' := .int .i64 (readLL M51.d key ts (aroundS (IntKind.i64.wrap ((IntKind.i64.wrap (at_ + la)) + lb)) l2 r2).1.1 (aroundS (IntKind.i64.wrap ((IntKind.i64.wrap (at_ + la)) + lb)) l2 r2).1.2).2.2) (vs := []) (obs := []) hK rfl (fun _ => by kernel_rfl) trivial rfl rfl rfl ?_
                            clear hK a; intro a hK
                            refine st_op (d := 212) (v' := .bool ((readLL M51.d key ts (aroundS (IntKind.i64.wrap ((IntKind.i64.wrap (at_ + la)) + lb)) l2 r2).1.1 (aroundS (IntKind.i64.wrap ((IntKind.i64.wrap (at_ + la)) + lb)) l2 r2).1.2).2.2 == 0)) (vs := []) (obs := []) hK rfl (fun _ => by kernel_rfl) trivial rfl rfl rfl ?_
                            clear hK a; intro a hK
                            refine st_op (d := 213) (v' := .bool ((readLL M51.d key ts (aroundS (IntKind.i64.wrap ((IntKind.i64.wrap (at_ + la)) + lb)) l2 r2).1.1 (aroundS (IntKind.i64.wrap ((IntKind.i64.wrap (at_ + la)) + lb)) l2 r2).1.2).2.2 == 0)) (vs := []) (obs := []) hK rfl (fun _ => by kernel_rfl) trivial rfl rfl rfl ?_
                            clear hK a; intro a hK
                            have hd77 : (((readLL M51.d key ts (aroundS (IntKind.i64.wrap ((IntKind.i64.wrap (at_ + la)) + lb)) l2 r2).1.1 (aroundS (IntKind.i64.wrap ((IntKind.i64.wrap (at_ + la)) + lb)) l2 r2).1.2).2.2 == 0)) = true := by rw [hN1]; exact hc40
                            replace hK := hK.sub (d := 213) (v' := .bool true) rfl (congrArg Value.bool hd77)
                            refine st_op (d := 214) (v' := .agg #[.int .i64 (readLL L.d key ts (aroundS at_ l0 r0).1.1 (aroundS at_ l0 r0).1.2).1.key, .int .i64 (readLL L.d key ts (aroundS at_ l0 r0).1.1 (aroundS at_ l0 r0).1.2).1.ts, .int .i64 (readLL L.d key ts (aroundS at_ l0 r0).1.1 (aroundS at_ l0 r0).1.2).1.value, .bool (readLL L.d key ts (aroundS at_ l0 r0).1.1 (aroundS at_ l0 r0).1.2).1.gone]) (vs := [.int .i64 (readLL L.d key ts (aroundS at_ l0 r0).1.1 (aroundS at_ l0 r0).1.2).1.key, .int .i64 (readLL L.d key ts (aroundS at_ l0 r0).1.1 (aroundS at_ l0 r0).1.2).1.ts, .int .i64 (readLL L.d key ts (aroundS at_ l0 r0).1.1 (aroundS at_ l0 r0).1.2).1.value, .bool (readLL L.d key ts (aroundS at_ l0 r0).1.1 (aroundS at_ l0 r0).1.2).1.gone]) (obs := [(⟨g37, 0, none⟩, .int .i64 (readLL L.d key ts (aroundS at_ l0 r0).1.1 (aroundS at_ l0 r0).1.2).1.key), (⟨g37, 1, none⟩, .int .i64 (readLL L.d key ts (aroundS at_ l0 r0).1.1 (aroundS at_ l0 r0).1.2).1.ts), (⟨g37, 2, none⟩, .int .i64 (readLL L.d key ts (aroundS at_ l0 r0).1.1 (aroundS at_ l0 r0).1.2).1.value), (⟨g37, 3, none⟩, .bool (readLL L.d key ts (aroundS at_ l0 r0).1.1 (aroundS at_ l0 r0).1.2).1.gone)]) hK rfl (fun _ => by kernel_rfl) ⟨((hE.blk 9 rfl).cell 0).trans rfl, ((hE.blk 9 rfl).cell 1).trans rfl, ((hE.blk 9 rfl).cell 2).trans rfl, ((hE.blk 9 rfl).cell 3).trans rfl, trivial⟩ rfl rfl rfl ?_
                            clear hK a; intro a hK
                            refine st_op (d := 215) (v' := .agg #[.int .i64 (readLL M51.d key ts (aroundS (IntKind.i64.wrap ((IntKind.i64.wrap (at_ + la)) + lb)) l2 r2).1.1 (aroundS (IntKind.i64.wrap ((IntKind.i64.wrap (at_ + la)) + lb)) l2 r2).1.2).1.key, .int .i64 (readLL M51.d key ts (aroundS (IntKind.i64.wrap ((IntKind.i64.wrap (at_ + la)) + lb)) l2 r2).1.1 (aroundS (IntKind.i64.wrap ((IntKind.i64.wrap (at_ + la)) + lb)) l2 r2).1.2).1.ts, .int .i64 (readLL M51.d key ts (aroundS (IntKind.i64.wrap ((IntKind.i64.wrap (at_ + la)) + lb)) l2 r2).1.1 (aroundS (IntKind.i64.wrap ((IntKind.i64.wrap (at_ + la)) + lb)) l2 r2).1.2).1.value, .bool (readLL M51.d key ts (aroundS (IntKind.i64.wrap ((IntKind.i64.wrap (at_ + la)) + lb)) l2 r2).1.1 (aroundS (IntKind.i64.wrap ((IntKind.i64.wrap (at_ + la)) + lb)) l2 r2).1.2).1.gone]) (vs := [.int .i64 (readLL M51.d key ts (aroundS (IntKind.i64.wrap ((IntKind.i64.wrap (at_ + la)) + lb)) l2 r2).1.1 (aroundS (IntKind.i64.wrap ((IntKind.i64.wrap (at_ + la)) + lb)) l2 r2).1.2).1.key, .int .i64 (readLL M51.d key ts (aroundS (IntKind.i64.wrap ((IntKind.i64.wrap (at_ + la)) + lb)) l2 r2).1.1 (aroundS (IntKind.i64.wrap ((IntKind.i64.wrap (at_ + la)) + lb)) l2 r2).1.2).1.ts, .int .i64 (readLL M51.d key ts (aroundS (IntKind.i64.wrap ((IntKind.i64.wrap (at_ + la)) + lb)) l2 r2).1.1 (aroundS (IntKind.i64.wrap ((IntKind.i64.wrap (at_ + la)) + lb)) l2 r2).1.2).1.value, .bool (readLL M51.d key ts (aroundS (IntKind.i64.wrap ((IntKind.i64.wrap (at_ + la)) + lb)) l2 r2).1.1 (aroundS (IntKind.i64.wrap ((IntKind.i64.wrap (at_ + la)) + lb)) l2 r2).1.2).1.gone]) (obs := [(⟨g60, 0, none⟩, .int .i64 (readLL M51.d key ts (aroundS (IntKind.i64.wrap ((IntKind.i64.wrap (at_ + la)) + lb)) l2 r2).1.1 (aroundS (IntKind.i64.wrap ((IntKind.i64.wrap (at_ + la)) + lb)) l2 r2).1.2).1.key), (⟨g60, 1, none⟩, .int .i64 (readLL M51.d key ts (aroundS (IntKind.i64.wrap ((IntKind.i64.wrap (at_ + la)) + lb)) l2 r2).1.1 (aroundS (IntKind.i64.wrap ((IntKind.i64.wrap (at_ + la)) + lb)) l2 r2).1.2).1.ts), (⟨g60, 2, none⟩, .int .i64 (readLL M51.d key ts (aroundS (IntKind.i64.wrap ((IntKind.i64.wrap (at_ + la)) + lb)) l2 r2).1.1 (aroundS (IntKind.i64.wrap ((IntKind.i64.wrap (at_ + la)) + lb)) l2 r2).1.2).1.value), (⟨g60, 3, none⟩, .bool (readLL M51.d key ts (aroundS (IntKind.i64.wrap ((IntKind.i64.wrap (at_ + la)) + lb)) l2 r2).1.1 (aroundS (IntKind.i64.wrap ((IntKind.i64.wrap (at_ + la)) + lb)) l2 r2).1.2).1.gone)]) hK rfl (fun _ => by kernel_rfl) ⟨((hE.blk 1 rfl).cell 0).trans rfl, ((hE.blk 1 rfl).cell 1).trans rfl, ((hE.blk 1 rfl).cell 2).trans rfl, ((hE.blk 1 rfl).cell 3).trans rfl, trivial⟩ rfl rfl rfl ?_
                            clear hK a; intro a hK
                            refine st_run (d := 216) (v' := .bool (eqB (readLL L.d key ts (aroundS at_ l0 r0).1.1 (aroundS at_ l0 r0).1.2).1.key (readLL L.d key ts (aroundS at_ l0 r0).1.1 (aroundS at_ l0 r0).1.2).1.ts (readLL L.d key ts (aroundS at_ l0 r0).1.1 (aroundS at_ l0 r0).1.2).1.value (readLL L.d key ts (aroundS at_ l0 r0).1.1 (aroundS at_ l0 r0).1.2).1.gone (readLL M51.d key ts (aroundS (IntKind.i64.wrap ((IntKind.i64.wrap (at_ + la)) + lb)) l2 r2).1.1 (aroundS (IntKind.i64.wrap ((IntKind.i64.wrap (at_ + la)) + lb)) l2 r2).1.2).1.key (readLL M51.d key ts (aroundS (IntKind.i64.wrap ((IntKind.i64.wrap (at_ + la)) + lb)) l2 r2).1.1 (aroundS (IntKind.i64.wrap ((IntKind.i64.wrap (at_ + la)) + lb)) l2 r2).1.2).1.ts (readLL M51.d key ts (aroundS (IntKind.i64.wrap ((IntKind.i64.wrap (at_ + la)) + lb)) l2 r2).1.1 (aroundS (IntKind.i64.wrap ((IntKind.i64.wrap (at_ + la)) + lb)) l2 r2).1.2).1.value (readLL M51.d key ts (aroundS (IntKind.i64.wrap ((IntKind.i64.wrap (at_ + la)) + lb)) l2 r2).1.1 (aroundS (IntKind.i64.wrap ((IntKind.i64.wrap (at_ + la)) + lb)) l2 r2).1.2).1.gone)) hK rfl (ex_eq rfl (fun _ => rfl) (fun _ => rfl) (by kernel_rfl) (fun W => eqlV (readLL L.d key ts (aroundS at_ l0 r0).1.1 (aroundS at_ l0 r0).1.2).1.key (readLL L.d key ts (aroundS at_ l0 r0).1.1 (aroundS at_ l0 r0).1.2).1.ts (readLL L.d key ts (aroundS at_ l0 r0).1.1 (aroundS at_ l0 r0).1.2).1.value (readLL M51.d key ts (aroundS (IntKind.i64.wrap ((IntKind.i64.wrap (at_ + la)) + lb)) l2 r2).1.1 (aroundS (IntKind.i64.wrap ((IntKind.i64.wrap (at_ + la)) + lb)) l2 r2).1.2).1.key (readLL M51.d key ts (aroundS (IntKind.i64.wrap ((IntKind.i64.wrap (at_ + la)) + lb)) l2 r2).1.1 (aroundS (IntKind.i64.wrap ((IntKind.i64.wrap (at_ + la)) + lb)) l2 r2).1.2).1.ts (readLL M51.d key ts (aroundS (IntKind.i64.wrap ((IntKind.i64.wrap (at_ + la)) + lb)) l2 r2).1.1 (aroundS (IntKind.i64.wrap ((IntKind.i64.wrap (at_ + la)) + lb)) l2 r2).1.2).1.value (readLL L.d key ts (aroundS at_ l0 r0).1.1 (aroundS at_ l0 r0).1.2).1.gone (readLL M51.d key ts (aroundS (IntKind.i64.wrap ((IntKind.i64.wrap (at_ + la)) + lb)) l2 r2).1.1 (aroundS (IntKind.i64.wrap ((IntKind.i64.wrap (at_ + la)) + lb)) l2 r2).1.2).1.gone W)) rfl rfl rfl ?_
                            clear hK a; intro a hK
                            refine st_op (d := 217) (v' := .bool (eqB (readLL L.d key ts (aroundS at_ l0 r0).1.1 (aroundS at_ l0 r0).1.2).1.key (readLL L.d key ts (aroundS at_ l0 r0).1.1 (aroundS at_ l0 r0).1.2).1.ts (readLL L.d key ts (aroundS at_ l0 r0).1.1 (aroundS at_ l0 r0).1.2).1.value (readLL L.d key ts (aroundS at_ l0 r0).1.1 (aroundS at_ l0 r0).1.2).1.gone (readLL M51.d key ts (aroundS (IntKind.i64.wrap ((IntKind.i64.wrap (at_ + la)) + lb)) l2 r2).1.1 (aroundS (IntKind.i64.wrap ((IntKind.i64.wrap (at_ + la)) + lb)) l2 r2).1.2).1.key (readLL M51.d key ts (aroundS (IntKind.i64.wrap ((IntKind.i64.wrap (at_ + la)) + lb)) l2 r2).1.1 (aroundS (IntKind.i64.wrap ((IntKind.i64.wrap (at_ + la)) + lb)) l2 r2).1.2).1.ts (readLL M51.d key ts (aroundS (IntKind.i64.wrap ((IntKind.i64.wrap (at_ + la)) + lb)) l2 r2).1.1 (aroundS (IntKind.i64.wrap ((IntKind.i64.wrap (at_ + la)) + lb)) l2 r2).1.2).1.value (readLL M51.d key ts (aroundS (IntKind.i64.wrap ((IntKind.i64.wrap (at_ + la)) + lb)) l2 r2).1.1 (aroundS (IntKind.i64.wrap ((IntKind.i64.wrap (at_ + la)) + lb)) l2 r2).1.2).1.gone)) (vs := []) (obs := []) hK rfl (fun _ => by kernel_rfl) trivial rfl rfl rfl ?_
                            clear hK a; intro a hK
                            refine st_op (d := 218) (v' := .bool (eqB (readLL L.d key ts (aroundS at_ l0 r0).1.1 (aroundS at_ l0 r0).1.2).1.key (readLL L.d key ts (aroundS at_ l0 r0).1.1 (aroundS at_ l0 r0).1.2).1.ts (readLL L.d key ts (aroundS at_ l0 r0).1.1 (aroundS at_ l0 r0).1.2).1.value (readLL L.d key ts (aroundS at_ l0 r0).1.1 (aroundS at_ l0 r0).1.2).1.gone (readLL M51.d key ts (aroundS (IntKind.i64.wrap ((IntKind.i64.wrap (at_ + la)) + lb)) l2 r2).1.1 (aroundS (IntKind.i64.wrap ((IntKind.i64.wrap (at_ + la)) + lb)) l2 r2).1.2).1.key (readLL M51.d key ts (aroundS (IntKind.i64.wrap ((IntKind.i64.wrap (at_ + la)) + lb)) l2 r2).1.1 (aroundS (IntKind.i64.wrap ((IntKind.i64.wrap (at_ + la)) + lb)) l2 r2).1.2).1.ts (readLL M51.d key ts (aroundS (IntKind.i64.wrap ((IntKind.i64.wrap (at_ + la)) + lb)) l2 r2).1.1 (aroundS (IntKind.i64.wrap ((IntKind.i64.wrap (at_ + la)) + lb)) l2 r2).1.2).1.value (readLL M51.d key ts (aroundS (IntKind.i64.wrap ((IntKind.i64.wrap (at_ + la)) + lb)) l2 r2).1.1 (aroundS (IntKind.i64.wrap ((IntKind.i64.wrap (at_ + la)) + lb)) l2 r2).1.2).1.gone)) (vs := []) (obs := []) hK rfl (fun _ => by kernel_rfl) trivial rfl rfl rfl ?_
                            clear hK a; intro a hK
                            have hd78 : (eqB (readLL L.d key ts (aroundS at_ l0 r0).1.1 (aroundS at_ l0 r0).1.2).1.key (readLL L.d key ts (aroundS at_ l0 r0).1.1 (aroundS at_ l0 r0).1.2).1.ts (readLL L.d key ts (aroundS at_ l0 r0).1.1 (aroundS at_ l0 r0).1.2).1.value (readLL L.d key ts (aroundS at_ l0 r0).1.1 (aroundS at_ l0 r0).1.2).1.gone (readLL M51.d key ts (aroundS (IntKind.i64.wrap ((IntKind.i64.wrap (at_ + la)) + lb)) l2 r2).1.1 (aroundS (IntKind.i64.wrap ((IntKind.i64.wrap (at_ + la)) + lb)) l2 r2).1.2).1.key (readLL M51.d key ts (aroundS (IntKind.i64.wrap ((IntKind.i64.wrap (at_ + la)) + lb)) l2 r2).1.1 (aroundS (IntKind.i64.wrap ((IntKind.i64.wrap (at_ + la)) + lb)) l2 r2).1.2).1.ts (readLL M51.d key ts (aroundS (IntKind.i64.wrap ((IntKind.i64.wrap (at_ + la)) + lb)) l2 r2).1.1 (aroundS (IntKind.i64.wrap ((IntKind.i64.wrap (at_ + la)) + lb)) l2 r2).1.2).1.value (readLL M51.d key ts (aroundS (IntKind.i64.wrap ((IntKind.i64.wrap (at_ + la)) + lb)) l2 r2).1.1 (aroundS (IntKind.i64.wrap ((IntKind.i64.wrap (at_ + la)) + lb)) l2 r2).1.2).1.gone) = true := by rw [hN1]; exact decide_eq_true rfl
                            replace hK := hK.sub (d := 218) (v' := .bool true) rfl (congrArg Value.bool hd78)
                            refine st_op (d := 219) (v' := .bool (readLL L.d key ts (aroundS at_ l0 r0).1.1 (aroundS at_ l0 r0).1.2).2.1) (vs := []) (obs := []) hK rfl (fun _ => by kernel_rfl) trivial rfl rfl rfl ?_
                            clear hK a; intro a hK
                            refine st_op (d := 220) (v' := .bool (readLL M51.d key ts (aroundS (IntKind.i64.wrap ((IntKind.i64.wrap (at_ + la)) + lb)) l2 r2).1.1 (aroundS (IntKind.i64.wrap ((IntKind.i64.wrap (at_ + la)) + lb)) l2 r2).1.2).2.1) (vs := []) (obs := []) hK rfl (fun _ => by kernel_rfl) trivial rfl rfl rfl ?_
                            clear hK a; intro a hK
                            refine st_op (d := 221) (v' := .bool ((readLL L.d key ts (aroundS at_ l0 r0).1.1 (aroundS at_ l0 r0).1.2).2.1 == (readLL M51.d key ts (aroundS (IntKind.i64.wrap ((IntKind.i64.wrap (at_ + la)) + lb)) l2 r2).1.1 (aroundS (IntKind.i64.wrap ((IntKind.i64.wrap (at_ + la)) + lb)) l2 r2).1.2).2.1)) (vs := []) (obs := []) hK rfl (fun _ => by kernel_rfl) trivial rfl rfl rfl ?_
                            clear hK a; intro a hK
                            refine st_op (d := 222) (v' := .bool ((readLL L.d key ts (aroundS at_ l0 r0).1.1 (aroundS at_ l0 r0).1.2).2.1 == (readLL M51.d key ts (aroundS (IntKind.i64.wrap ((IntKind.i64.wrap (at_ + la)) + lb)) l2 r2).1.1 (aroundS (IntKind.i64.wrap ((IntKind.i64.wrap (at_ + la)) + lb)) l2 r2).1.2).2.1)) (vs := []) (obs := []) hK rfl (fun _ => by kernel_rfl) trivial rfl rfl rfl ?_
                            clear hK a; intro a hK
                            refine st_op (d := 223) (v' := .bool ((readLL L.d key ts (aroundS at_ l0 r0).1.1 (aroundS at_ l0 r0).1.2).2.1 == (readLL M51.d key ts (aroundS (IntKind.i64.wrap ((IntKind.i64.wrap (at_ + la)) + lb)) l2 r2).1.1 (aroundS (IntKind.i64.wrap ((IntKind.i64.wrap (at_ + la)) + lb)) l2 r2).1.2).2.1)) (vs := []) (obs := []) hK rfl (fun _ => by kernel_rfl) trivial rfl rfl rfl ?_
                            clear hK a; intro a hK
                            have hd79 : (((readLL L.d key ts (aroundS at_ l0 r0).1.1 (aroundS at_ l0 r0).1.2).2.1 == (readLL M51.d key ts (aroundS (IntKind.i64.wrap ((IntKind.i64.wrap (at_ + la)) + lb)) l2 r2).1.1 (aroundS (IntKind.i64.wrap ((IntKind.i64.wrap (at_ + la)) + lb)) l2 r2).1.2).2.1)) = true := by rw [hN1]; exact beq_self_eq_true _
                            replace hK := hK.sub (d := 223) (v' := .bool true) rfl (congrArg Value.bool hd79)
                            refine st_skip (d := 224) hK rfl rfl rfl ?_
                            clear hK a; intro a hK
                            refine st_skip (d := 225) hK rfl rfl rfl ?_
                            clear hK a; intro a hK
                            refine st_skip (d := 226) hK rfl rfl rfl ?_
                            clear hK a; intro a hK
                            refine st_skip (d := 227) hK rfl rfl rfl ?_
                            clear hK a; intro a hK
                            refine st_skip (d := 228) hK rfl rfl rfl ?_
                            clear hK a; intro a hK
                            refine st_op (d := 229) (v' := .bool true) (vs := []) (obs := []) hK rfl (fun _ => by kernel_rfl) trivial rfl rfl rfl ?_
                            clear hK a; intro a hK
                            refine st_op (d := 230) (v' := .bool true) (vs := []) (obs := []) hK rfl (fun _ => by kernel_rfl) trivial rfl rfl rfl ?_
                            clear hK a; intro a hK
                            refine st_op (d := 231) (v' := .bool true) (vs := []) (obs := []) hK rfl (fun _ => by kernel_rfl) trivial rfl rfl rfl ?_
                            clear hK a; intro a hK
                            refine st_op (d := 232) (v' := .int .i64 (readLL M41.d key ts (aroundS (IntKind.i64.wrap (at_ + la)) l1 r1).1.1 (aroundS (IntKind.i64.wrap (at_ + la)) l1 r1).1.2).2.2) (vs := []) (obs := []) hK rfl (fun _ => by kernel_rfl) trivial rfl rfl rfl ?_
                            clear hK a; intro a hK
                            refine st_op (d := 233) (v' := .bool ((readLL M41.d key ts (aroundS (IntKind.i64.wrap (at_ + la)) l1 r1).1.1 (aroundS (IntKind.i64.wrap (at_ + la)) l1 r1).1.2).2.2 == 0)) (vs := []) (obs := []) hK rfl (fun _ => by kernel_rfl) trivial rfl rfl rfl ?_
                            clear hK a; intro a hK
                            refine st_op (d := 234) (v' := .bool ((readLL M41.d key ts (aroundS (IntKind.i64.wrap (at_ + la)) l1 r1).1.1 (aroundS (IntKind.i64.wrap (at_ + la)) l1 r1).1.2).2.2 == 0)) (vs := []) (obs := []) hK rfl (fun _ => by kernel_rfl) trivial rfl rfl rfl ?_
                            clear hK a; intro a hK
                            have hd80 : (((readLL M41.d key ts (aroundS (IntKind.i64.wrap (at_ + la)) l1 r1).1.1 (aroundS (IntKind.i64.wrap (at_ + la)) l1 r1).1.2).2.2 == 0)) = true := by rw [hN2]; exact hc40
                            replace hK := hK.sub (d := 234) (v' := .bool true) rfl (congrArg Value.bool hd80)
                            refine st_op (d := 235) (v' := .agg #[.int .i64 (readLL L.d key ts (aroundS at_ l0 r0).1.1 (aroundS at_ l0 r0).1.2).1.key, .int .i64 (readLL L.d key ts (aroundS at_ l0 r0).1.1 (aroundS at_ l0 r0).1.2).1.ts, .int .i64 (readLL L.d key ts (aroundS at_ l0 r0).1.1 (aroundS at_ l0 r0).1.2).1.value, .bool (readLL L.d key ts (aroundS at_ l0 r0).1.1 (aroundS at_ l0 r0).1.2).1.gone]) (vs := [.int .i64 (readLL L.d key ts (aroundS at_ l0 r0).1.1 (aroundS at_ l0 r0).1.2).1.key, .int .i64 (readLL L.d key ts (aroundS at_ l0 r0).1.1 (aroundS at_ l0 r0).1.2).1.ts, .int .i64 (readLL L.d key ts (aroundS at_ l0 r0).1.1 (aroundS at_ l0 r0).1.2).1.value, .bool (readLL L.d key ts (aroundS at_ l0 r0).1.1 (aroundS at_ l0 r0).1.2).1.gone]) (obs := [(⟨g37, 0, none⟩, .int .i64 (readLL L.d key ts (aroundS at_ l0 r0).1.1 (aroundS at_ l0 r0).1.2).1.key), (⟨g37, 1, none⟩, .int .i64 (readLL L.d key ts (aroundS at_ l0 r0).1.1 (aroundS at_ l0 r0).1.2).1.ts), (⟨g37, 2, none⟩, .int .i64 (readLL L.d key ts (aroundS at_ l0 r0).1.1 (aroundS at_ l0 r0).1.2).1.value), (⟨g37, 3, none⟩, .bool (readLL L.d key ts (aroundS at_ l0 r0).1.1 (aroundS at_ l0 r0).1.2).1.gone)]) hK rfl (fun _ => by kernel_rfl) ⟨((hE.blk 9 rfl).cell 0).trans rfl, ((hE.blk 9 rfl).cell 1).trans rfl, ((hE.blk 9 rfl).cell 2).trans rfl, ((hE.blk 9 rfl).cell 3).trans rfl, trivial⟩ rfl rfl rfl ?_
                            clear hK a; intro a hK
                            refine st_op (d := 236) (v' := .agg #[.int .i64 (readLL M41.d key ts (aroundS (IntKind.i64.wrap (at_ + la)) l1 r1).1.1 (aroundS (IntKind.i64.wrap (at_ + la)) l1 r1).1.2).1.key, .int .i64 (readLL M41.d key ts (aroundS (IntKind.i64.wrap (at_ + la)) l1 r1).1.1 (aroundS (IntKind.i64.wrap (at_ + la)) l1 r1).1.2).1.ts, .int .i64 (readLL M41.d key ts (aroundS (IntKind.i64.wrap (at_ + la)) l1 r1).1.1 (aroundS (IntKind.i64.wrap (at_ + la)) l1 r1).1.2).1.value, .bool (readLL M41.d key ts (aroundS (IntKind.i64.wrap (at_ + la)) l1 r1).1.1 (aroundS (IntKind.i64.wrap (at_ + la)) l1 r1).1.2).1.gone]) (vs := [.int .i64 (readLL M41.d key ts (aroundS (IntKind.i64.wrap (at_ + la)) l1 r1).1.1 (aroundS (IntKind.i64.wrap (at_ + la)) l1 r1).1.2).1.key, .int .i64 (readLL M41.d key ts (aroundS (IntKind.i64.wrap (at_ + la)) l1 r1).1.1 (aroundS (IntKind.i64.wrap (at_ + la)) l1 r1).1.2).1.ts, .int .i64 (readLL M41.d key ts (aroundS (IntKind.i64.wrap (at_ + la)) l1 r1).1.1 (aroundS (IntKind.i64.wrap (at_ + la)) l1 r1).1.2).1.value, .bool (readLL M41.d key ts (aroundS (IntKind.i64.wrap (at_ + la)) l1 r1).1.1 (aroundS (IntKind.i64.wrap (at_ + la)) l1 r1).1.2).1.gone]) (obs := [(⟨g64, 0, none⟩, .int .i64 (readLL M41.d key ts (aroundS (IntKind.i64.wrap (at_ + la)) l1 r1).1.1 (aroundS (IntKind.i64.wrap (at_ + la)) l1 r1).1.2).1.key), (⟨g64, 1, none⟩, .int .i64 (readLL M41.d key ts (aroundS (IntKind.i64.wrap (at_ + la)) l1 r1).1.1 (aroundS (IntKind.i64.wrap (at_ + la)) l1 r1).1.2).1.ts), (⟨g64, 2, none⟩, .int .i64 (readLL M41.d key ts (aroundS (IntKind.i64.wrap (at_ + la)) l1 r1).1.1 (aroundS (IntKind.i64.wrap (at_ + la)) l1 r1).1.2).1.value), (⟨g64, 3, none⟩, .bool (readLL M41.d key ts (aroundS (IntKind.i64.wrap (at_ + la)) l1 r1).1.1 (aroundS (IntKind.i64.wrap (at_ + la)) l1 r1).1.2).1.gone)]) hK rfl (fun _ => by kernel_rfl) ⟨((hE.blk 0 rfl).cell 0).trans rfl, ((hE.blk 0 rfl).cell 1).trans rfl, ((hE.blk 0 rfl).cell 2).trans rfl, ((hE.blk 0 rfl).cell 3).trans rfl, trivial⟩ rfl rfl rfl ?_
                            clear hK a; intro a hK
                            refine st_run (d := 237) (v' := .bool (eqB (readLL L.d key ts (aroundS at_ l0 r0).1.1 (aroundS at_ l0 r0).1.2).1.key (readLL L.d key ts (aroundS at_ l0 r0).1.1 (aroundS at_ l0 r0).1.2).1.ts (readLL L.d key ts (aroundS at_ l0 r0).1.1 (aroundS at_ l0 r0).1.2).1.value (readLL L.d key ts (aroundS at_ l0 r0).1.1 (aroundS at_ l0 r0).1.2).1.gone (readLL M41.d key ts (aroundS (IntKind.i64.wrap (at_ + la)) l1 r1).1.1 (aroundS (IntKind.i64.wrap (at_ + la)) l1 r1).1.2).1.key (readLL M41.d key ts (aroundS (IntKind.i64.wrap (at_ + la)) l1 r1).1.1 (aroundS (IntKind.i64.wrap (at_ + la)) l1 r1).1.2).1.ts (readLL M41.d key ts (aroundS (IntKind.i64.wrap (at_ + la)) l1 r1).1.1 (aroundS (IntKind.i64.wrap (at_ + la)) l1 r1).1.2).1.value (readLL M41.d key ts (aroundS (IntKind.i64.wrap (at_ + la)) l1 r1).1.1 (aroundS (IntKind.i64.wrap (at_ + la)) l1 r1).1.2).1.gone)) hK rfl (ex_eq rfl (fun _ => rfl) (fun _ => rfl) (by kernel_rfl) (fun W => eqlV (readLL L.d key ts (aroundS at_ l0 r0).1.1 (aroundS at_ l0 r0).1.2).1.key (readLL L.d key ts (aroundS at_ l0 r0).1.1 (aroundS at_ l0 r0).1.2).1.ts (readLL L.d key ts (aroundS at_ l0 r0).1.1 (aroundS at_ l0 r0).1.2).1.value (readLL M41.d key ts (aroundS (IntKind.i64.wrap (at_ + la)) l1 r1).1.1 (aroundS (IntKind.i64.wrap (at_ + la)) l1 r1).1.2).1.key (readLL M41.d key ts (aroundS (IntKind.i64.wrap (at_ + la)) l1 r1).1.1 (aroundS (IntKind.i64.wrap (at_ + la)) l1 r1).1.2).1.ts (readLL M41.d key ts (aroundS (IntKind.i64.wrap (at_ + la)) l1 r1).1.1 (aroundS (IntKind.i64.wrap (at_ + la)) l1 r1).1.2).1.value (readLL L.d key ts (aroundS at_ l0 r0).1.1 (aroundS at_ l0 r0).1.2).1.gone (readLL M41.d key ts (aroundS (IntKind.i64.wrap (at_ + la)) l1 r1).1.1 (aroundS (IntKind.i64.wrap (at_ + la)) l1 r1).1.2).1.gone W)) rfl rfl rfl ?_
                            clear hK a; intro a hK
                            refine st_op (d := 238) (v' := .bool (eqB (readLL L.d key ts (aroundS at_ l0 r0).1.1 (aroundS at_ l0 r0).1.2).1.key (readLL L.d key ts (aroundS at_ l0 r0).1.1 (aroundS at_ l0 r0).1.2).1.ts (readLL L.d key ts (aroundS at_ l0 r0).1.1 (aroundS at_ l0 r0).1.2).1.value (readLL L.d key ts (aroundS at_ l0 r0).1.1 (aroundS at_ l0 r0).1.2).1.gone (readLL M41.d key ts (aroundS (IntKind.i64.wrap (at_ + la)) l1 r1).1.1 (aroundS (IntKind.i64.wrap (at_ + la)) l1 r1).1.2).1.key (readLL M41.d key ts (aroundS (IntKind.i64.wrap (at_ + la)) l1 r1).1.1 (aroundS (IntKind.i64.wrap (at_ + la)) l1 r1).1.2).1.ts (readLL M41.d key ts (aroundS (IntKind.i64.wrap (at_ + la)) l1 r1).1.1 (aroundS (IntKind.i64.wrap (at_ + la)) l1 r1).1.2).1.value (readLL M41.d key ts (aroundS (IntKind.i64.wrap (at_ + la)) l1 r1).1.1 (aroundS (IntKind.i64.wrap (at_ + la)) l1 r1).1.2).1.gone)) (vs := []) (obs := []) hK rfl (fun _ => by kernel_rfl) trivial rfl rfl rfl ?_
                            clear hK a; intro a hK
                            refine st_op (d := 239) (v' := .bool (eqB (readLL L.d key ts (aroundS at_ l0 r0).1.1 (aroundS at_ l0 r0).1.2).1.key (readLL L.d key ts (aroundS at_ l0 r0).1.1 (aroundS at_ l0 r0).1.2).1.ts (readLL L.d key ts (aroundS at_ l0 r0).1.1 (aroundS at_ l0 r0).1.2).1.value (readLL L.d key ts (aroundS at_ l0 r0).1.1 (aroundS at_ l0 r0).1.2).1.gone (readLL M41.d key ts (aroundS (IntKind.i64.wrap (at_ + la)) l1 r1).1.1 (aroundS (IntKind.i64.wrap (at_ + la)) l1 r1).1.2).1.key (readLL M41.d key ts (aroundS (IntKind.i64.wrap (at_ + la)) l1 r1).1.1 (aroundS (IntKind.i64.wrap (at_ + la)) l1 r1).1.2).1.ts (readLL M41.d key ts (aroundS (IntKind.i64.wrap (at_ + la)) l1 r1).1.1 (aroundS (IntKind.i64.wrap (at_ + la)) l1 r1).1.2).1.value (readLL M41.d key ts (aroundS (IntKind.i64.wrap (at_ + la)) l1 r1).1.1 (aroundS (IntKind.i64.wrap (at_ + la)) l1 r1).1.2).1.gone)) (vs := []) (obs := []) hK rfl (fun _ => by kernel_rfl) trivial rfl rfl rfl ?_
                            clear hK a; intro a hK
                            have hd81 : (eqB (readLL L.d key ts (aroundS at_ l0 r0).1.1 (aroundS at_ l0 r0).1.2).1.key (readLL L.d key ts (aroundS at_ l0 r0).1.1 (aroundS at_ l0 r0).1.2).1.ts (readLL L.d key ts (aroundS at_ l0 r0).1.1 (aroundS at_ l0 r0).1.2).1.value (readLL L.d key ts (aroundS at_ l0 r0).1.1 (aroundS at_ l0 r0).1.2).1.gone (readLL M41.d key ts (aroundS (IntKind.i64.wrap (at_ + la)) l1 r1).1.1 (aroundS (IntKind.i64.wrap (at_ + la)) l1 r1).1.2).1.key (readLL M41.d key ts (aroundS (IntKind.i64.wrap (at_ + la)) l1 r1).1.1 (aroundS (IntKind.i64.wrap (at_ + la)) l1 r1).1.2).1.ts (readLL M41.d key ts (aroundS (IntKind.i64.wrap (at_ + la)) l1 r1).1.1 (aroundS (IntKind.i64.wrap (at_ + la)) l1 r1).1.2).1.value (readLL M41.d key ts (aroundS (IntKind.i64.wrap (at_ + la)) l1 r1).1.1 (aroundS (IntKind.i64.wrap (at_ + la)) l1 r1).1.2).1.gone) = true := by rw [hN2]; exact decide_eq_true rfl
                            replace hK := hK.sub (d := 239) (v' := .bool true) rfl (congrArg Value.bool hd81)
                            refine st_op (d := 240) (v' := .bool (readLL L.d key ts (aroundS at_ l0 r0).1.1 (aroundS at_ l0 r0).1.2).2.1) (vs := []) (obs := []) hK rfl (fun _ => by kernel_rfl) trivial rfl rfl rfl ?_
                            clear hK a; intro a hK
                            refine st_op (d := 241) (v' := .bool (readLL M41.d key ts (aroundS (IntKind.i64.wrap (at_ + la)) l1 r1).1.1 (aroundS (IntKind.i64.wrap (at_ + la)) l1 r1).1.2).2.1) (vs := []) (obs := []) hK rfl (fun _ => by kernel_rfl) trivial rfl rfl rfl ?_
                            clear hK a; intro a hK
                            refine st_op (d := 242) (v' := .bool ((readLL L.d key ts (aroundS at_ l0 r0).1.1 (aroundS at_ l0 r0).1.2).2.1 == (readLL M41.d key ts (aroundS (IntKind.i64.wrap (at_ + la)) l1 r1).1.1 (aroundS (IntKind.i64.wrap (at_ + la)) l1 r1).1.2).2.1)) (vs := []) (obs := []) hK rfl (fun _ => by kernel_rfl) trivial rfl rfl rfl ?_
                            clear hK a; intro a hK
                            refine st_op (d := 243) (v' := .bool ((readLL L.d key ts (aroundS at_ l0 r0).1.1 (aroundS at_ l0 r0).1.2).2.1 == (readLL M41.d key ts (aroundS (IntKind.i64.wrap (at_ + la)) l1 r1).1.1 (aroundS (IntKind.i64.wrap (at_ + la)) l1 r1).1.2).2.1)) (vs := []) (obs := []) hK rfl (fun _ => by kernel_rfl) trivial rfl rfl rfl ?_
                            clear hK a; intro a hK
                            refine st_op (d := 244) (v' := .bool ((readLL L.d key ts (aroundS at_ l0 r0).1.1 (aroundS at_ l0 r0).1.2).2.1 == (readLL M41.d key ts (aroundS (IntKind.i64.wrap (at_ + la)) l1 r1).1.1 (aroundS (IntKind.i64.wrap (at_ + la)) l1 r1).1.2).2.1)) (vs := []) (obs := []) hK rfl (fun _ => by kernel_rfl) trivial rfl rfl rfl ?_
                            clear hK a; intro a hK
                            have hd82 : (((readLL L.d key ts (aroundS at_ l0 r0).1.1 (aroundS at_ l0 r0).1.2).2.1 == (readLL M41.d key ts (aroundS (IntKind.i64.wrap (at_ + la)) l1 r1).1.1 (aroundS (IntKind.i64.wrap (at_ + la)) l1 r1).1.2).2.1)) = true := by rw [hN2]; exact beq_self_eq_true _
                            replace hK := hK.sub (d := 244) (v' := .bool true) rfl (congrArg Value.bool hd82)
                            refine st_skip (d := 245) hK rfl rfl rfl ?_
                            clear hK a; intro a hK
                            refine st_skip (d := 246) hK rfl rfl rfl ?_
                            clear hK a; intro a hK
                            refine st_skip (d := 247) hK rfl rfl rfl ?_
                            clear hK a; intro a hK
                            refine st_skip (d := 248) hK rfl rfl rfl ?_
                            clear hK a; intro a hK
                            refine st_skip (d := 249) hK rfl rfl rfl ?_
                            clear hK a; intro a hK
                            refine st_op (d := 250) (v' := .bool true) (vs := []) (obs := []) hK rfl (fun _ => by kernel_rfl) trivial rfl rfl rfl ?_
                            clear hK a; intro a hK
                            refine st_op (d := 251) (v' := .bool true) (vs := []) (obs := []) hK rfl (fun _ => by kernel_rfl) trivial rfl rfl rfl ?_
                            clear hK a; intro a hK
                            refine st_op (d := 16) (v' := .bool true) (vs := []) (obs := []) hK rfl (fun _ => by kernel_rfl) trivial rfl rfl rfl ?_
                            clear hK a; intro a hK
                            refine wpList_nil ?_
                            replace hK := hK.weak (K' := [(16, .bool true)]) ⟨rfl, trivial⟩
                            refine xt_norm ?_
                            refine wp_ret ?_
                            refine vc_ret (v' := .bool true) (vs := []) (obs := []) hK (fun _ => by kernel_rfl) trivial rfl ?_
                            exact ⟨rfl, hE.b⟩
                        · have hc69p := of_decide_eq_false hc69
                          replace hK := hK.sub (d := 191) (v' := .bool false) rfl (congrArg Value.bool hc69)
                          refine st_skip (d := 192) hK rfl rfl rfl ?_
                          clear hK a; intro a hK
                          refine st_skip (d := 193) hK rfl rfl rfl ?_
                          clear hK a; intro a hK
                          refine st_op (d := 194) (v' := .bool false) (vs := []) (obs := []) hK rfl (fun _ => by kernel_rfl) trivial rfl rfl rfl ?_
                          clear hK a; intro a hK
                          refine st_op (d := 39) (v' := .bool false) (vs := []) (obs := []) hK rfl (fun _ => by kernel_rfl) trivial rfl rfl rfl ?_
                          clear hK a; intro a hK
                          refine wpList_nil ?_
                          replace hK := hK.weak (K' := [(2, .int .i64 ts), (8, .pointer (some ⟨g1, 0, none⟩)), (16, .bool false), (17, .bool true), (20, .pointer (some ⟨g26, 0, none⟩)), (24, .pointer (some ⟨g37, 0, none⟩)), (25, .bool (readLL L.d key ts (aroundS at_ l0 r0).1.1 (aroundS at_ l0 r0).1.2).2.1), (29, .int .i64 (stampS L.d t.t (aroundS (IntKind.i64.wrap (at_ + la)) l1 r1).1.1 (aroundS (IntKind.i64.wrap (at_ + la)) l1 r1).1.2).2.2), (33, .pointer (some ⟨g60, 0, none⟩)), (34, .bool (readLL M51.d key ts (aroundS (IntKind.i64.wrap ((IntKind.i64.wrap (at_ + la)) + lb)) l2 r2).1.1 (aroundS (IntKind.i64.wrap ((IntKind.i64.wrap (at_ + la)) + lb)) l2 r2).1.2).2.1), (35, .int .i64 (readLL M51.d key ts (aroundS (IntKind.i64.wrap ((IntKind.i64.wrap (at_ + la)) + lb)) l2 r2).1.1 (aroundS (IntKind.i64.wrap ((IntKind.i64.wrap (at_ + la)) + lb)) l2 r2).1.2).2.2), (36, .pointer (some ⟨g64, 0, none⟩)), (37, .bool (readLL M41.d key ts (aroundS (IntKind.i64.wrap (at_ + la)) l1 r1).1.1 (aroundS (IntKind.i64.wrap (at_ + la)) l1 r1).1.2).2.1), (38, .int .i64 (readLL M41.d key ts (aroundS (IntKind.i64.wrap (at_ + la)) l1 r1).1.1 (aroundS (IntKind.i64.wrap (at_ + la)) l1 r1).1.2).2.2), (39, .bool false)]) ⟨rfl, rfl, rfl, rfl, rfl, rfl, rfl, rfl, rfl, rfl, rfl, rfl, rfl, rfl, rfl, trivial⟩
                          refine xt_norm ?_
                          refine wp_seq ?_
                          refine wp_region_lit ?_
                          refine st_op (d := 195) (v' := .int .i64 ts) (vs := []) (obs := []) hK rfl (fun _ => by kernel_rfl) trivial rfl rfl rfl ?_
                          clear hK a; intro a hK
                          refine st_op (d := 196) (v' := .pointer (some ⟨g1, 0, none⟩)) (vs := []) (obs := []) hK rfl (fun _ => by kernel_rfl) trivial rfl rfl rfl ?_
                          clear hK a; intro a hK
                          refine st_op (d := 197) (v' := .int .i64 L.last) (vs := [.int .i64 L.last]) (obs := [(⟨g1, 0, none⟩, .int .i64 L.last)]) hK rfl (fun _ => by kernel_rfl) ⟨((hE.blk 18 rfl).cell 0).trans rfl, trivial⟩ rfl rfl rfl ?_
                          clear hK a; intro a hK
                          refine st_op (d := 198) (v' := .bool (decide (ts > L.last))) (vs := []) (obs := []) hK rfl (fun _ => by kernel_rfl) trivial rfl rfl rfl ?_
                          clear hK a; intro a hK
                          refine st_op (d := 199) (v' := .bool (decide (ts > L.last))) (vs := []) (obs := []) hK rfl (fun _ => by kernel_rfl) trivial rfl rfl rfl ?_
                          clear hK a; intro a hK
                          replace hK := hK.sub (d := 199) (v' := .bool true) rfl (congrArg Value.bool hc68)
                          refine st_op (d := 200) (v' := .int .i64 ts) (vs := []) (obs := []) hK rfl (fun _ => by kernel_rfl) trivial rfl rfl rfl ?_
                          clear hK a; intro a hK
                          refine st_op (d := 201) (v' := .pointer (some ⟨g26, 0, none⟩)) (vs := []) (obs := []) hK rfl (fun _ => by kernel_rfl) trivial rfl rfl rfl ?_
                          clear hK a; intro a hK
                          refine st_op (d := 202) (v' := .int .i64 (aroundS (IntKind.i64.wrap (at_ + la)) l1 r1).1.1) (vs := [.int .i64 (aroundS (IntKind.i64.wrap (at_ + la)) l1 r1).1.1]) (obs := [(⟨g26, 0, none⟩, .int .i64 (aroundS (IntKind.i64.wrap (at_ + la)) l1 r1).1.1)]) hK rfl (fun _ => by kernel_rfl) ⟨((hE.blk 11 rfl).cell 0).trans rfl, trivial⟩ rfl rfl rfl ?_
                          clear hK a; intro a hK
                          refine st_op (d := 203) (v' := .bool (decide (ts ≥ (aroundS (IntKind.i64.wrap (at_ + la)) l1 r1).1.1))) (vs := []) (obs := []) hK rfl (fun _ => by kernel_rfl) trivial rfl rfl rfl ?_
                          clear hK a; intro a hK
                          refine st_op (d := 204) (v' := .bool (decide (ts ≥ (aroundS (IntKind.i64.wrap (at_ + la)) l1 r1).1.1))) (vs := []) (obs := []) hK rfl (fun _ => by kernel_rfl) trivial rfl rfl rfl ?_
                          clear hK a; intro a hK
                          refine st_op (d := 205) (v' := .bool (decide (ts ≥ (aroundS (IntKind.i64.wrap (at_ + la)) l1 r1).1.1))) (vs := []) (obs := []) hK rfl (fun _ => by kernel_rfl) trivial rfl rfl rfl ?_
                          clear hK a; intro a hK
                          rcases Bool.eq_false_or_eq_true (decide (ts ≥ (aroundS (IntKind.i64.wrap (at_ + la)) l1 r1).1.1)) with hc83 | hc83
                          · have hc83p := of_decide_eq_true hc83
                            replace hK := hK.sub (d := 205) (v' := .bool true) rfl (congrArg Value.bool hc83)
                            refine st_op (d := 206) (v' := .int .i64 (stampS L.d t.t (aroundS (IntKind.i64.wrap (at_ + la)) l1 r1).1.1 (aroundS (IntKind.i64.wrap (at_ + la)) l1 r1).1.2).2.2) (vs := []) (obs := []) hK rfl (fun _ => by kernel_rfl) trivial rfl rfl rfl ?_
                            clear hK a; intro a hK
                            refine st_op (d := 207) (v' := .bool ((stampS L.d t.t (aroundS (IntKind.i64.wrap (at_ + la)) l1 r1).1.1 (aroundS (IntKind.i64.wrap (at_ + la)) l1 r1).1.2).2.2 != 0)) (v := .bool (!((stampS L.d t.t (aroundS (IntKind.i64.wrap (at_ + la)) l1 r1).1.1 (aroundS (IntKind.i64.wrap (at_ + la)) l1 r1).1.2).2.2 == 0))) (vs := []) (obs := []) hK rfl (fun _ => by kernel_rfl) trivial rfl rfl rfl ?_
                            clear hK a; intro a hK
                            refine st_op (d := 208) (v' := .bool (!((stampS L.d t.t (aroundS (IntKind.i64.wrap (at_ + la)) l1 r1).1.1 (aroundS (IntKind.i64.wrap (at_ + la)) l1 r1).1.2).2.2 == 0))) (vs := []) (obs := []) hK rfl (fun _ => by kernel_rfl) trivial rfl rfl rfl ?_
                            clear hK a; intro a hK
                            refine st_op (d := 40) (v' := .bool (!((stampS L.d t.t (aroundS (IntKind.i64.wrap (at_ + la)) l1 r1).1.1 (aroundS (IntKind.i64.wrap (at_ + la)) l1 r1).1.2).2.2 == 0))) (vs := []) (obs := []) hK rfl (fun _ => by kernel_rfl) trivial rfl rfl rfl ?_
                            clear hK a; intro a hK
                            refine wpList_nil ?_
                            refine xt_norm ?_
                            refine wp_seq ?_
                            refine wp_region_lit ?_
                            refine st_op (d := 209) (v' := .bool true) (vs := []) (obs := []) hK rfl (fun _ => by kernel_rfl) trivial rfl rfl rfl ?_
                            clear hK a; intro a hK
                            refine st_op (d := 210) (v' := .bool true) (vs := []) (obs := []) hK rfl (fun _ => by kernel_rfl) trivial rfl rfl rfl ?_
                            clear hK a; intro a hK
                            refine st_op (d := 211) (v' := .int .i64 (readLL M51.d key ts (aroundS (IntKind.i64.wrap ((IntKind.i64.wrap (at_ + la)) + lb)) l2 r2).1.1 (aroundS (IntKind.i64.wrap ((IntKind.i64.wrap (at_ + la)) + lb)) l2 r2).1.2).2.2) (vs := []) (obs := []) hK rfl (fun _ => by kernel_rfl) trivial rfl rfl rfl ?_
                            clear hK a; intro a hK
                            refine st_op (d := 212) (v' := .bool ((readLL M51.d key ts (aroundS (IntKind.i64.wrap ((IntKind.i64.wrap (at_ + la)) + lb)) l2 r2).1.1 (aroundS (IntKind.i64.wrap ((IntKind.i64.wrap (at_ + la)) + lb)) l2 r2).1.2).2.2 == 0)) (vs := []) (obs := []) hK rfl (fun _ => by kernel_rfl) trivial rfl rfl rfl ?_
                            clear hK a; intro a hK
                            refine st_op (d := 213) (v' := .bool ((readLL M51.d key ts (aroundS (IntKind.i64.wrap ((IntKind.i64.wrap (at_ + la)) + lb)) l2 r2).1.1 (aroundS (IntKind.i64.wrap ((IntKind.i64.wrap (at_ + la)) + lb)) l2 r2).1.2).2.2 == 0)) (vs := []) (obs := []) hK rfl (fun _ => by kernel_rfl) trivial rfl rfl rfl ?_
                            clear hK a; intro a hK
                            have hd84 : (((readLL M51.d key ts (aroundS (IntKind.i64.wrap ((IntKind.i64.wrap (at_ + la)) + lb)) l2 r2).1.1 (aroundS (IntKind.i64.wrap ((IntKind.i64.wrap (at_ + la)) + lb)) l2 r2).1.2).2.2 == 0)) = true := by rw [hN1]; exact hc40
                            replace hK := hK.sub (d := 213) (v' := .bool true) rfl (congrArg Value.bool hd84)
                            refine st_op (d := 214) (v' := .agg #[.int .i64 (readLL L.d key ts (aroundS at_ l0 r0).1.1 (aroundS at_ l0 r0).1.2).1.key, .int .i64 (readLL L.d key ts (aroundS at_ l0 r0).1.1 (aroundS at_ l0 r0).1.2).1.ts, .int .i64 (readLL L.d key ts (aroundS at_ l0 r0).1.1 (aroundS at_ l0 r0).1.2).1.value, .bool (readLL L.d key ts (aroundS at_ l0 r0).1.1 (aroundS at_ l0 r0).1.2).1.gone]) (vs := [.int .i64 (readLL L.d key ts (aroundS at_ l0 r0).1.1 (aroundS at_ l0 r0).1.2).1.key, .int .i64 (readLL L.d key ts (aroundS at_ l0 r0).1.1 (aroundS at_ l0 r0).1.2).1.ts, .int .i64 (readLL L.d key ts (aroundS at_ l0 r0).1.1 (aroundS at_ l0 r0).1.2).1.value, .bool (readLL L.d key ts (aroundS at_ l0 r0).1.1 (aroundS at_ l0 r0).1.2).1.gone]) (obs := [(⟨g37, 0, none⟩, .int .i64 (readLL L.d key ts (aroundS at_ l0 r0).1.1 (aroundS at_ l0 r0).1.2).1.key), (⟨g37, 1, none⟩, .int .i64 (readLL L.d key ts (aroundS at_ l0 r0).1.1 (aroundS at_ l0 r0).1.2).1.ts), (⟨g37, 2, none⟩, .int .i64 (readLL L.d key ts (aroundS at_ l0 r0).1.1 (aroundS at_ l0 r0).1.2).1.value), (⟨g37, 3, none⟩, .bool (readLL L.d key ts (aroundS at_ l0 r0).1.1 (aroundS at_ l0 r0).1.2).1.gone)]) hK rfl (fun _ => by kernel_rfl) ⟨((hE.blk 9 rfl).cell 0).trans rfl, ((hE.blk 9 rfl).cell 1).trans rfl, ((hE.blk 9 rfl).cell 2).trans rfl, ((hE.blk 9 rfl).cell 3).trans rfl, trivial⟩ rfl rfl rfl ?_
                            clear hK a; intro a hK
                            refine st_op (d := 215) (v' := .agg #[.int .i64 (readLL M51.d key ts (aroundS (IntKind.i64.wrap ((IntKind.i64.wrap (at_ + la)) + lb)) l2 r2).1.1 (aroundS (IntKind.i64.wrap ((IntKind.i64.wrap (at_ + la)) + lb)) l2 r2).1.2).1.key, .int .i64 (readLL M51.d key ts (aroundS (IntKind.i64.wrap ((IntKind.i64.wrap (at_ + la)) + lb)) l2 r2).1.1 (aroundS (IntKind.i64.wrap ((IntKind.i64.wrap (at_ + la)) + lb)) l2 r2).1.2).1.ts, .int .i64 (readLL M51.d key ts (aroundS (IntKind.i64.wrap ((IntKind.i64.wrap (at_ + la)) + lb)) l2 r2).1.1 (aroundS (IntKind.i64.wrap ((IntKind.i64.wrap (at_ + la)) + lb)) l2 r2).1.2).1.value, .bool (readLL M51.d key ts (aroundS (IntKind.i64.wrap ((IntKind.i64.wrap (at_ + la)) + lb)) l2 r2).1.1 (aroundS (IntKind.i64.wrap ((IntKind.i64.wrap (at_ + la)) + lb)) l2 r2).1.2).1.gone]) (vs := [.int .i64 (readLL M51.d key ts (aroundS (IntKind.i64.wrap ((IntKind.i64.wrap (at_ + la)) + lb)) l2 r2).1.1 (aroundS (IntKind.i64.wrap ((IntKind.i64.wrap (at_ + la)) + lb)) l2 r2).1.2).1.key, .int .i64 (readLL M51.d key ts (aroundS (IntKind.i64.wrap ((IntKind.i64.wrap (at_ + la)) + lb)) l2 r2).1.1 (aroundS (IntKind.i64.wrap ((IntKind.i64.wrap (at_ + la)) + lb)) l2 r2).1.2).1.ts, .int .i64 (readLL M51.d key ts (aroundS (IntKind.i64.wrap ((IntKind.i64.wrap (at_ + la)) + lb)) l2 r2).1.1 (aroundS (IntKind.i64.wrap ((IntKind.i64.wrap (at_ + la)) + lb)) l2 r2).1.2).1.value, .bool (readLL M51.d key ts (aroundS (IntKind.i64.wrap ((IntKind.i64.wrap (at_ + la)) + lb)) l2 r2).1.1 (aroundS (IntKind.i64.wrap ((IntKind.i64.wrap (at_ + la)) + lb)) l2 r2).1.2).1.gone]) (obs := [(⟨g60, 0, none⟩, .int .i64 (readLL M51.d key ts (aroundS (IntKind.i64.wrap ((IntKind.i64.wrap (at_ + la)) + lb)) l2 r2).1.1 (aroundS (IntKind.i64.wrap ((IntKind.i64.wrap (at_ + la)) + lb)) l2 r2).1.2).1.key), (⟨g60, 1, none⟩, .int .i64 (readLL M51.d key ts (aroundS (IntKind.i64.wrap ((IntKind.i64.wrap (at_ + la)) + lb)) l2 r2).1.1 (aroundS (IntKind.i64.wrap ((IntKind.i64.wrap (at_ + la)) + lb)) l2 r2).1.2).1.ts), (⟨g60, 2, none⟩, .int .i64 (readLL M51.d key ts (aroundS (IntKind.i64.wrap ((IntKind.i64.wrap (at_ + la)) + lb)) l2 r2).1.1 (aroundS (IntKind.i64.wrap ((IntKind.i64.wrap (at_ + la)) + lb)) l2 r2).1.2).1.value), (⟨g60, 3, none⟩, .bool (readLL M51.d key ts (aroundS (IntKind.i64.wrap ((IntKind.i64.wrap (at_ + la)) + lb)) l2 r2).1.1 (aroundS (IntKind.i64.wrap ((IntKind.i64.wrap (at_ + la)) + lb)) l2 r2).1.2).1.gone)]) hK rfl (fun _ => by kernel_rfl) ⟨((hE.blk 1 rfl).cell 0).trans rfl, ((hE.blk 1 rfl).cell 1).trans rfl, ((hE.blk 1 rfl).cell 2).trans rfl, ((hE.blk 1 rfl).cell 3).trans rfl, trivial⟩ rfl rfl rfl ?_
                            clear hK a; intro a hK
                            refine st_run (d := 216) (v' := .bool (eqB (readLL L.d key ts (aroundS at_ l0 r0).1.1 (aroundS at_ l0 r0).1.2).1.key (readLL L.d key ts (aroundS at_ l0 r0).1.1 (aroundS at_ l0 r0).1.2).1.ts (readLL L.d key ts (aroundS at_ l0 r0).1.1 (aroundS at_ l0 r0).1.2).1.value (readLL L.d key ts (aroundS at_ l0 r0).1.1 (aroundS at_ l0 r0).1.2).1.gone (readLL M51.d key ts (aroundS (IntKind.i64.wrap ((IntKind.i64.wrap (at_ + la)) + lb)) l2 r2).1.1 (aroundS (IntKind.i64.wrap ((IntKind.i64.wrap (at_ + la)) + lb)) l2 r2).1.2).1.key (readLL M51.d key ts (aroundS (IntKind.i64.wrap ((IntKind.i64.wrap (at_ + la)) + lb)) l2 r2).1.1 (aroundS (IntKind.i64.wrap ((IntKind.i64.wrap (at_ + la)) + lb)) l2 r2).1.2).1.ts (readLL M51.d key ts (aroundS (IntKind.i64.wrap ((IntKind.i64.wrap (at_ + la)) + lb)) l2 r2).1.1 (aroundS (IntKind.i64.wrap ((IntKind.i64.wrap (at_ + la)) + lb)) l2 r2).1.2).1.value (readLL M51.d key ts (aroundS (IntKind.i64.wrap ((IntKind.i64.wrap (at_ + la)) + lb)) l2 r2).1.1 (aroundS (IntKind.i64.wrap ((IntKind.i64.wrap (at_ + la)) + lb)) l2 r2).1.2).1.gone)) hK rfl (ex_eq rfl (fun _ => rfl) (fun _ => rfl) (by kernel_rfl) (fun W => eqlV (readLL L.d key ts (aroundS at_ l0 r0).1.1 (aroundS at_ l0 r0).1.2).1.key (readLL L.d key ts (aroundS at_ l0 r0).1.1 (aroundS at_ l0 r0).1.2).1.ts (readLL L.d key ts (aroundS at_ l0 r0).1.1 (aroundS at_ l0 r0).1.2).1.value (readLL M51.d key ts (aroundS (IntKind.i64.wrap ((IntKind.i64.wrap (at_ + la)) + lb)) l2 r2).1.1 (aroundS (IntKind.i64.wrap ((IntKind.i64.wrap (at_ + la)) + lb)) l2 r2).1.2).1.key (readLL M51.d key ts (aroundS (IntKind.i64.wrap ((IntKind.i64.wrap (at_ + la)) + lb)) l2 r2).1.1 (aroundS (IntKind.i64.wrap ((IntKind.i64.wrap (at_ + la)) + lb)) l2 r2).1.2).1.ts (readLL M51.d key ts (aroundS (IntKind.i64.wrap ((IntKind.i64.wrap (at_ + la)) + lb)) l2 r2).1.1 (aroundS (IntKind.i64.wrap ((IntKind.i64.wrap (at_ + la)) + lb)) l2 r2).1.2).1.value (readLL L.d key ts (aroundS at_ l0 r0).1.1 (aroundS at_ l0 r0).1.2).1.gone (readLL M51.d key ts (aroundS (IntKind.i64.wrap ((IntKind.i64.wrap (at_ + la)) + lb)) l2 r2).1.1 (aroundS (IntKind.i64.wrap ((IntKind.i64.wrap (at_ + la)) + lb)) l2 r2).1.2).1.gone W)) rfl rfl rfl ?_
                            clear hK a; intro a hK
                            refine st_op (d := 217) (v' := .bool (eqB (readLL L.d key ts (aroundS at_ l0 r0).1.1 (aroundS at_ l0 r0).1.2).1.key (readLL L.d key ts (aroundS at_ l0 r0).1.1 (aroundS at_ l0 r0).1.2).1.ts (readLL L.d key ts (aroundS at_ l0 r0).1.1 (aroundS at_ l0 r0).1.2).1.value (readLL L.d key ts (aroundS at_ l0 r0).1.1 (aroundS at_ l0 r0).1.2).1.gone (readLL M51.d key ts (aroundS (IntKind.i64.wrap ((IntKind.i64.wrap (at_ + la)) + lb)) l2 r2).1.1 (aroundS (IntKind.i64.wrap ((IntKind.i64.wrap (at_ + la)) + lb)) l2 r2).1.2).1.key (readLL M51.d key ts (aroundS (IntKind.i64.wrap ((IntKind.i64.wrap (at_ + la)) + lb)) l2 r2).1.1 (aroundS (IntKind.i64.wrap ((IntKind.i64.wrap (at_ + la)) + lb)) l2 r2).1.2).1.ts (readLL M51.d key ts (aroundS (IntKind.i64.wrap ((IntKind.i64.wrap (at_ + la)) + lb)) l2 r2).1.1 (aroundS (IntKind.i64.wrap ((IntKind.i64.wrap (at_ + la)) + lb)) l2 r2).1.2).1.value (readLL M51.d key ts (aroundS (IntKind.i64.wrap ((IntKind.i64.wrap (at_ + la)) + lb)) l2 r2).1.1 (aroundS (IntKind.i64.wrap ((IntKind.i64.wrap (at_ + la)) + lb)) l2 r2).1.2).1.gone)) (vs := []) (obs := []) hK rfl (fun _ => by kernel_rfl) trivial rfl rfl rfl ?_
                            clear hK a; intro a hK
                            refine st_op (d := 218) (v' := .bool (eqB (readLL L.d key ts (aroundS at_ l0 r0).1.1 (aroundS at_ l0 r0).1.2).1.key (readLL L.d key ts (aroundS at_ l0 r0).1.1 (aroundS at_ l0 r0).1.2).1.ts (readLL L.d key ts (aroundS at_ l0 r0).1.1 (aroundS at_ l0 r0).1.2).1.value (readLL L.d key ts (aroundS at_ l0 r0).1.1 (aroundS at_ l0 r0).1.2).1.gone (readLL M51.d key ts (aroundS (IntKind.i64.wrap ((IntKind.i64.wrap (at_ + la)) + lb)) l2 r2).1.1 (aroundS (IntKind.i64.wrap ((IntKind.i64.wrap (at_ + la)) + lb)) l2 r2).1.2).1.key (readLL M51.d key ts (aroundS (IntKind.i64.wrap ((IntKind.i64.wrap (at_ + la)) + lb)) l2 r2).1.1 (aroundS (IntKind.i64.wrap ((IntKind.i64.wrap (at_ + la)) + lb)) l2 r2).1.2).1.ts (readLL M51.d key ts (aroundS (IntKind.i64.wrap ((IntKind.i64.wrap (at_ + la)) + lb)) l2 r2).1.1 (aroundS (IntKind.i64.wrap ((IntKind.i64.wrap (at_ + la)) + lb)) l2 r2).1.2).1.value (readLL M51.d key ts (aroundS (IntKind.i64.wrap ((IntKind.i64.wrap (at_ + la)) + lb)) l2 r2).1.1 (aroundS (IntKind.i64.wrap ((IntKind.i64.wrap (at_ + la)) + lb)) l2 r2).1.2).1.gone)) (vs := []) (obs := []) hK rfl (fun _ => by kernel_rfl) trivial rfl rfl rfl ?_
                            clear hK a; intro a hK
                            have hd85 : (eqB (readLL L.d key ts (aroundS at_ l0 r0).1.1 (aroundS at_ l0 r0).1.2).1.key (readLL L.d key ts (aroundS at_ l0 r0).1.1 (aroundS at_ l0 r0).1.2).1.ts (readLL L.d key ts (aroundS at_ l0 r0).1.1 (aroundS at_ l0 r0).1.2).1.value (readLL L.d key ts (aroundS at_ l0 r0).1.1 (aroundS at_ l0 r0).1.2).1.gone (readLL M51.d key ts (aroundS (IntKind.i64.wrap ((IntKind.i64.wrap (at_ + la)) + lb)) l2 r2).1.1 (aroundS (IntKind.i64.wrap ((IntKind.i64.wrap (at_ + la)) + lb)) l2 r2).1.2).1.key (readLL M51.d key ts (aroundS (IntKind.i64.wrap ((IntKind.i64.wrap (at_ + la)) + lb)) l2 r2).1.1 (aroundS (IntKind.i64.wrap ((IntKind.i64.wrap (at_ + la)) + lb)) l2 r2).1.2).1.ts (readLL M51.d key ts (aroundS (IntKind.i64.wrap ((IntKind.i64.wrap (at_ + la)) + lb)) l2 r2).1.1 (aroundS (IntKind.i64.wrap ((IntKind.i64.wrap (at_ + la)) + lb)) l2 r2).1.2).1.value (readLL M51.d key ts (aroundS (IntKind.i64.wrap ((IntKind.i64.wrap (at_ + la)) + lb)) l2 r2).1.1 (aroundS (IntKind.i64.wrap ((IntKind.i64.wrap (at_ + la)) + lb)) l2 r2).1.2).1.gone) = true := by rw [hN1]; exact decide_eq_true rfl
                            replace hK := hK.sub (d := 218) (v' := .bool true) rfl (congrArg Value.bool hd85)
                            refine st_op (d := 219) (v' := .bool (readLL L.d key ts (aroundS at_ l0 r0).1.1 (aroundS at_ l0 r0).1.2).2.1) (vs := []) (obs := []) hK rfl (fun _ => by kernel_rfl) trivial rfl rfl rfl ?_
                            clear hK a; intro a hK
                            refine st_op (d := 220) (v' := .bool (readLL M51.d key ts (aroundS (IntKind.i64.wrap ((IntKind.i64.wrap (at_ + la)) + lb)) l2 r2).1.1 (aroundS (IntKind.i64.wrap ((IntKind.i64.wrap (at_ + la)) + lb)) l2 r2).1.2).2.1) (vs := []) (obs := []) hK rfl (fun _ => by kernel_rfl) trivial rfl rfl rfl ?_
                            clear hK a; intro a hK
                            refine st_op (d := 221) (v' := .bool ((readLL L.d key ts (aroundS at_ l0 r0).1.1 (aroundS at_ l0 r0).1.2).2.1 == (readLL M51.d key ts (aroundS (IntKind.i64.wrap ((IntKind.i64.wrap (at_ + la)) + lb)) l2 r2).1.1 (aroundS (IntKind.i64.wrap ((IntKind.i64.wrap (at_ + la)) + lb)) l2 r2).1.2).2.1)) (vs := []) (obs := []) hK rfl (fun _ => by kernel_rfl) trivial rfl rfl rfl ?_
                            clear hK a; intro a hK
                            refine st_op (d := 222) (v' := .bool ((readLL L.d key ts (aroundS at_ l0 r0).1.1 (aroundS at_ l0 r0).1.2).2.1 == (readLL M51.d key ts (aroundS (IntKind.i64.wrap ((IntKind.i64.wrap (at_ + la)) + lb)) l2 r2).1.1 (aroundS (IntKind.i64.wrap ((IntKind.i64.wrap (at_ + la)) + lb)) l2 r2).1.2).2.1)) (vs := []) (obs := []) hK rfl (fun _ => by kernel_rfl) trivial rfl rfl rfl ?_
                            clear hK a; intro a hK
                            refine st_op (d := 223) (v' := .bool ((readLL L.d key ts (aroundS at_ l0 r0).1.1 (aroundS at_ l0 r0).1.2).2.1 == (readLL M51.d key ts (aroundS (IntKind.i64.wrap ((IntKind.i64.wrap (at_ + la)) + lb)) l2 r2).1.1 (aroundS (IntKind.i64.wrap ((IntKind.i64.wrap (at_ + la)) + lb)) l2 r2).1.2).2.1)) (vs := []) (obs := []) hK rfl (fun _ => by kernel_rfl) trivial rfl rfl rfl ?_
                            clear hK a; intro a hK
                            have hd86 : (((readLL L.d key ts (aroundS at_ l0 r0).1.1 (aroundS at_ l0 r0).1.2).2.1 == (readLL M51.d key ts (aroundS (IntKind.i64.wrap ((IntKind.i64.wrap (at_ + la)) + lb)) l2 r2).1.1 (aroundS (IntKind.i64.wrap ((IntKind.i64.wrap (at_ + la)) + lb)) l2 r2).1.2).2.1)) = true := by rw [hN1]; exact beq_self_eq_true _
                            replace hK := hK.sub (d := 223) (v' := .bool true) rfl (congrArg Value.bool hd86)
                            refine st_skip (d := 224) hK rfl rfl rfl ?_
                            clear hK a; intro a hK
                            refine st_skip (d := 225) hK rfl rfl rfl ?_
                            clear hK a; intro a hK
                            refine st_skip (d := 226) hK rfl rfl rfl ?_
                            clear hK a; intro a hK
                            refine st_skip (d := 227) hK rfl rfl rfl ?_
                            clear hK a; intro a hK
                            refine st_skip (d := 228) hK rfl rfl rfl ?_
                            clear hK a; intro a hK
                            refine st_op (d := 229) (v' := .bool true) (vs := []) (obs := []) hK rfl (fun _ => by kernel_rfl) trivial rfl rfl rfl ?_
                            clear hK a; intro a hK
                            refine st_op (d := 230) (v' := .bool true) (vs := []) (obs := []) hK rfl (fun _ => by kernel_rfl) trivial rfl rfl rfl ?_
                            clear hK a; intro a hK
                            refine st_op (d := 231) (v' := .bool true) (vs := []) (obs := []) hK rfl (fun _ => by kernel_rfl) trivial rfl rfl rfl ?_
                            clear hK a; intro a hK
                            refine st_op (d := 232) (v' := .int .i64 (readLL M41.d key ts (aroundS (IntKind.i64.wrap (at_ + la)) l1 r1).1.1 (aroundS (IntKind.i64.wrap (at_ + la)) l1 r1).1.2).2.2) (vs := []) (obs := []) hK rfl (fun _ => by kernel_rfl) trivial rfl rfl rfl ?_
                            clear hK a; intro a hK
                            refine st_op (d := 233) (v' := .bool ((readLL M41.d key ts (aroundS (IntKind.i64.wrap (at_ + la)) l1 r1).1.1 (aroundS (IntKind.i64.wrap (at_ + la)) l1 r1).1.2).2.2 == 0)) (vs := []) (obs := []) hK rfl (fun _ => by kernel_rfl) trivial rfl rfl rfl ?_
                            clear hK a; intro a hK
                            refine st_op (d := 234) (v' := .bool ((readLL M41.d key ts (aroundS (IntKind.i64.wrap (at_ + la)) l1 r1).1.1 (aroundS (IntKind.i64.wrap (at_ + la)) l1 r1).1.2).2.2 == 0)) (vs := []) (obs := []) hK rfl (fun _ => by kernel_rfl) trivial rfl rfl rfl ?_
                            clear hK a; intro a hK
                            have hd87 : (((readLL M41.d key ts (aroundS (IntKind.i64.wrap (at_ + la)) l1 r1).1.1 (aroundS (IntKind.i64.wrap (at_ + la)) l1 r1).1.2).2.2 == 0)) = true := by rw [hN2]; exact hc40
                            replace hK := hK.sub (d := 234) (v' := .bool true) rfl (congrArg Value.bool hd87)
                            refine st_op (d := 235) (v' := .agg #[.int .i64 (readLL L.d key ts (aroundS at_ l0 r0).1.1 (aroundS at_ l0 r0).1.2).1.key, .int .i64 (readLL L.d key ts (aroundS at_ l0 r0).1.1 (aroundS at_ l0 r0).1.2).1.ts, .int .i64 (readLL L.d key ts (aroundS at_ l0 r0).1.1 (aroundS at_ l0 r0).1.2).1.value, .bool (readLL L.d key ts (aroundS at_ l0 r0).1.1 (aroundS at_ l0 r0).1.2).1.gone]) (vs := [.int .i64 (readLL L.d key ts (aroundS at_ l0 r0).1.1 (aroundS at_ l0 r0).1.2).1.key, .int .i64 (readLL L.d key ts (aroundS at_ l0 r0).1.1 (aroundS at_ l0 r0).1.2).1.ts, .int .i64 (readLL L.d key ts (aroundS at_ l0 r0).1.1 (aroundS at_ l0 r0).1.2).1.value, .bool (readLL L.d key ts (aroundS at_ l0 r0).1.1 (aroundS at_ l0 r0).1.2).1.gone]) (obs := [(⟨g37, 0, none⟩, .int .i64 (readLL L.d key ts (aroundS at_ l0 r0).1.1 (aroundS at_ l0 r0).1.2).1.key), (⟨g37, 1, none⟩, .int .i64 (readLL L.d key ts (aroundS at_ l0 r0).1.1 (aroundS at_ l0 r0).1.2).1.ts), (⟨g37, 2, none⟩, .int .i64 (readLL L.d key ts (aroundS at_ l0 r0).1.1 (aroundS at_ l0 r0).1.2).1.value), (⟨g37, 3, none⟩, .bool (readLL L.d key ts (aroundS at_ l0 r0).1.1 (aroundS at_ l0 r0).1.2).1.gone)]) hK rfl (fun _ => by kernel_rfl) ⟨((hE.blk 9 rfl).cell 0).trans rfl, ((hE.blk 9 rfl).cell 1).trans rfl, ((hE.blk 9 rfl).cell 2).trans rfl, ((hE.blk 9 rfl).cell 3).trans rfl, trivial⟩ rfl rfl rfl ?_
                            clear hK a; intro a hK
                            refine st_op (d := 236) (v' := .agg #[.int .i64 (readLL M41.d key ts (aroundS (IntKind.i64.wrap (at_ + la)) l1 r1).1.1 (aroundS (IntKind.i64.wrap (at_ + la)) l1 r1).1.2).1.key, .int .i64 (readLL M41.d key ts (aroundS (IntKind.i64.wrap (at_ + la)) l1 r1).1.1 (aroundS (IntKind.i64.wrap (at_ + la)) l1 r1).1.2).1.ts, .int .i64 (readLL M41.d key ts (aroundS (IntKind.i64.wrap (at_ + la)) l1 r1).1.1 (aroundS (IntKind.i64.wrap (at_ + la)) l1 r1).1.2).1.value, .bool (readLL M41.d key ts (aroundS (IntKind.i64.wrap (at_ + la)) l1 r1).1.1 (aroundS (IntKind.i64.wrap (at_ + la)) l1 r1).1.2).1.gone]) (vs := [.int .i64 (readLL M41.d key ts (aroundS (IntKind.i64.wrap (at_ + la)) l1 r1).1.1 (aroundS (IntKind.i64.wrap (at_ + la)) l1 r1).1.2).1.key, .int .i64 (readLL M41.d key ts (aroundS (IntKind.i64.wrap (at_ + la)) l1 r1).1.1 (aroundS (IntKind.i64.wrap (at_ + la)) l1 r1).1.2).1.ts, .int .i64 (readLL M41.d key ts (aroundS (IntKind.i64.wrap (at_ + la)) l1 r1).1.1 (aroundS (IntKind.i64.wrap (at_ + la)) l1 r1).1.2).1.value, .bool (readLL M41.d key ts (aroundS (IntKind.i64.wrap (at_ + la)) l1 r1).1.1 (aroundS (IntKind.i64.wrap (at_ + la)) l1 r1).1.2).1.gone]) (obs := [(⟨g64, 0, none⟩, .int .i64 (readLL M41.d key ts (aroundS (IntKind.i64.wrap (at_ + la)) l1 r1).1.1 (aroundS (IntKind.i64.wrap (at_ + la)) l1 r1).1.2).1.key), (⟨g64, 1, none⟩, .int .i64 (readLL M41.d key ts (aroundS (IntKind.i64.wrap (at_ + la)) l1 r1).1.1 (aroundS (IntKind.i64.wrap (at_ + la)) l1 r1).1.2).1.ts), (⟨g64, 2, none⟩, .int .i64 (readLL M41.d key ts (aroundS (IntKind.i64.wrap (at_ + la)) l1 r1).1.1 (aroundS (IntKind.i64.wrap (at_ + la)) l1 r1).1.2).1.value), (⟨g64, 3, none⟩, .bool (readLL M41.d key ts (aroundS (IntKind.i64.wrap (at_ + la)) l1 r1).1.1 (aroundS (IntKind.i64.wrap (at_ + la)) l1 r1).1.2).1.gone)]) hK rfl (fun _ => by kernel_rfl) ⟨((hE.blk 0 rfl).cell 0).trans rfl, ((hE.blk 0 rfl).cell 1).trans rfl, ((hE.blk 0 rfl).cell 2).trans rfl, ((hE.blk 0 rfl).cell 3).trans rfl, trivial⟩ rfl rfl rfl ?_
                            clear hK a; intro a hK
                            refine st_run (d := 237) (v' := .bool (eqB (readLL L.d key ts (aroundS at_ l0 r0).1.1 (aroundS at_ l0 r0).1.2).1.key (readLL L.d key ts (aroundS at_ l0 r0).1.1 (aroundS at_ l0 r0).1.2).1.ts (readLL L.d key ts (aroundS at_ l0 r0).1.1 (aroundS at_ l0 r0).1.2).1.value (readLL L.d key ts (aroundS at_ l0 r0).1.1 (aroundS at_ l0 r0).1.2).1.gone (readLL M41.d key ts (aroundS (IntKind.i64.wrap (at_ + la)) l1 r1).1.1 (aroundS (IntKind.i64.wrap (at_ + la)) l1 r1).1.2).1.key (readLL M41.d key ts (aroundS (IntKind.i64.wrap (at_ + la)) l1 r1).1.1 (aroundS (IntKind.i64.wrap (at_ + la)) l1 r1).1.2).1.ts (readLL M41.d key ts (aroundS (IntKind.i64.wrap (at_ + la)) l1 r1).1.1 (aroundS (IntKind.i64.wrap (at_ + la)) l1 r1).1.2).1.value (readLL M41.d key ts (aroundS (IntKind.i64.wrap (at_ + la)) l1 r1).1.1 (aroundS (IntKind.i64.wrap (at_ + la)) l1 r1).1.2).1.gone)) hK rfl (ex_eq rfl (fun _ => rfl) (fun _ => rfl) (by kernel_rfl) (fun W => eqlV (readLL L.d key ts (aroundS at_ l0 r0).1.1 (aroundS at_ l0 r0).1.2).1.key (readLL L.d key ts (aroundS at_ l0 r0).1.1 (aroundS at_ l0 r0).1.2).1.ts (readLL L.d key ts (aroundS at_ l0 r0).1.1 (aroundS at_ l0 r0).1.2).1.value (readLL M41.d key ts (aroundS (IntKind.i64.wrap (at_ + la)) l1 r1).1.1 (aroundS (IntKind.i64.wrap (at_ + la)) l1 r1).1.2).1.key (readLL M41.d key ts (aroundS (IntKind.i64.wrap (at_ + la)) l1 r1).1.1 (aroundS (IntKind.i64.wrap (at_ + la)) l1 r1).1.2).1.ts (readLL M41.d key ts (aroundS (IntKind.i64.wrap (at_ + la)) l1 r1).1.1 (aroundS (IntKind.i64.wrap (at_ + la)) l1 r1).1.2).1.value (readLL L.d key ts (aroundS at_ l0 r0).1.1 (aroundS at_ l0 r0).1.2).1.gone (readLL M41.d key ts (aroundS (IntKind.i64.wrap (at_ + la)) l1 r1).1.1 (aroundS (IntKind.i64.wrap (at_ + la)) l1 r1).1.2).1.gone W)) rfl rfl rfl ?_
                            clear hK a; intro a hK
                            refine st_op (d := 238) (v' := .bool (eqB (readLL L.d key ts (aroundS at_ l0 r0).1.1 (aroundS at_ l0 r0).1.2).1.key (readLL L.d key ts (aroundS at_ l0 r0).1.1 (aroundS at_ l0 r0).1.2).1.ts (readLL L.d key ts (aroundS at_ l0 r0).1.1 (aroundS at_ l0 r0).1.2).1.value (readLL L.d key ts (aroundS at_ l0 r0).1.1 (aroundS at_ l0 r0).1.2).1.gone (readLL M41.d key ts (aroundS (IntKind.i64.wrap (at_ + la)) l1 r1).1.1 (aroundS (IntKind.i64.wrap (at_ + la)) l1 r1).1.2).1.key (readLL M41.d key ts (aroundS (IntKind.i64.wrap (at_ + la)) l1 r1).1.1 (aroundS (IntKind.i64.wrap (at_ + la)) l1 r1).1.2).1.ts (readLL M41.d key ts (aroundS (IntKind.i64.wrap (at_ + la)) l1 r1).1.1 (aroundS (IntKind.i64.wrap (at_ + la)) l1 r1).1.2).1.value (readLL M41.d key ts (aroundS (IntKind.i64.wrap (at_ + la)) l1 r1).1.1 (aroundS (IntKind.i64.wrap (at_ + la)) l1 r1).1.2).1.gone)) (vs := []) (obs := []) hK rfl (fun _ => by kernel_rfl) trivial rfl rfl rfl ?_
                            clear hK a; intro a hK
                            refine st_op (d := 239) (v' := .bool (eqB (readLL L.d key ts (aroundS at_ l0 r0).1.1 (aroundS at_ l0 r0).1.2).1.key (readLL L.d key ts (aroundS at_ l0 r0).1.1 (aroundS at_ l0 r0).1.2).1.ts (readLL L.d key ts (aroundS at_ l0 r0).1.1 (aroundS at_ l0 r0).1.2).1.value (readLL L.d key ts (aroundS at_ l0 r0).1.1 (aroundS at_ l0 r0).1.2).1.gone (readLL M41.d key ts (aroundS (IntKind.i64.wrap (at_ + la)) l1 r1).1.1 (aroundS (IntKind.i64.wrap (at_ + la)) l1 r1).1.2).1.key (readLL M41.d key ts (aroundS (IntKind.i64.wrap (at_ + la)) l1 r1).1.1 (aroundS (IntKind.i64.wrap (at_ + la)) l1 r1).1.2).1.ts (readLL M41.d key ts (aroundS (IntKind.i64.wrap (at_ + la)) l1 r1).1.1 (aroundS (IntKind.i64.wrap (at_ + la)) l1 r1).1.2).1.value (readLL M41.d key ts (aroundS (IntKind.i64.wrap (at_ + la)) l1 r1).1.1 (aroundS (IntKind.i64.wrap (at_ + la)) l1 r1).1.2).1.gone)) (vs := []) (obs := []) hK rfl (fun _ => by kernel_rfl) trivial rfl rfl rfl ?_
                            clear hK a; intro a hK
                            have hd88 : (eqB (readLL L.d key ts (aroundS at_ l0 r0).1.1 (aroundS at_ l0 r0).1.2).1.key (readLL L.d key ts (aroundS at_ l0 r0).1.1 (aroundS at_ l0 r0).1.2).1.ts (readLL L.d key ts (aroundS at_ l0 r0).1.1 (aroundS at_ l0 r0).1.2).1.value (readLL L.d key ts (aroundS at_ l0 r0).1.1 (aroundS at_ l0 r0).1.2).1.gone (readLL M41.d key ts (aroundS (IntKind.i64.wrap (at_ + la)) l1 r1).1.1 (aroundS (IntKind.i64.wrap (at_ + la)) l1 r1).1.2).1.key (readLL M41.d key ts (aroundS (IntKind.i64.wrap (at_ + la)) l1 r1).1.1 (aroundS (IntKind.i64.wrap (at_ + la)) l1 r1).1.2).1.ts (readLL M41.d key ts (aroundS (IntKind.i64.wrap (at_ + la)) l1 r1).1.1 (aroundS (IntKind.i64.wrap (at_ + la)) l1 r1).1.2).1.value (readLL M41.d key ts (aroundS (IntKind.i64.wrap (at_ + la)) l1 r1).1.1 (aroundS (IntKind.i64.wrap (at_ + la)) l1 r1).1.2).1.gone) = true := by rw [hN2]; exact decide_eq_true rfl
                            replace hK := hK.sub (d := 239) (v' := .bool true) rfl (congrArg Value.bool hd88)
                            refine st_op (d := 240) (v' := .bool (readLL L.d key ts (aroundS at_ l0 r0).1.1 (aroundS at_ l0 r0).1.2).2.1) (vs := []) (obs := []) hK rfl (fun _ => by kernel_rfl) trivial rfl rfl rfl ?_
                            clear hK a; intro a hK
                            refine st_op (d := 241) (v' := .bool (readLL M41.d key ts (aroundS (IntKind.i64.wrap (at_ + la)) l1 r1).1.1 (aroundS (IntKind.i64.wrap (at_ + la)) l1 r1).1.2).2.1) (vs := []) (obs := []) hK rfl (fun _ => by kernel_rfl) trivial rfl rfl rfl ?_
                            clear hK a; intro a hK
                            refine st_op (d := 242) (v' := .bool ((readLL L.d key ts (aroundS at_ l0 r0).1.1 (aroundS at_ l0 r0).1.2).2.1 == (readLL M41.d key ts (aroundS (IntKind.i64.wrap (at_ + la)) l1 r1).1.1 (aroundS (IntKind.i64.wrap (at_ + la)) l1 r1).1.2).2.1)) (vs := []) (obs := []) hK rfl (fun _ => by kernel_rfl) trivial rfl rfl rfl ?_
                            clear hK a; intro a hK
                            refine st_op (d := 243) (v' := .bool ((readLL L.d key ts (aroundS at_ l0 r0).1.1 (aroundS at_ l0 r0).1.2).2.1 == (readLL M41.d key ts (aroundS (IntKind.i64.wrap (at_ + la)) l1 r1).1.1 (aroundS (IntKind.i64.wrap (at_ + la)) l1 r1).1.2).2.1)) (vs := []) (obs := []) hK rfl (fun _ => by kernel_rfl) trivial rfl rfl rfl ?_
                            clear hK a; intro a hK
                            refine st_op (d := 244) (v' := .bool ((readLL L.d key ts (aroundS at_ l0 r0).1.1 (aroundS at_ l0 r0).1.2).2.1 == (readLL M41.d key ts (aroundS (IntKind.i64.wrap (at_ + la)) l1 r1).1.1 (aroundS (IntKind.i64.wrap (at_ + la)) l1 r1).1.2).2.1)) (vs := []) (obs := []) hK rfl (fun _ => by kernel_rfl) trivial rfl rfl rfl ?_
                            clear hK a; intro a hK
                            have hd89 : (((readLL L.d key ts (aroundS at_ l0 r0).1.1 (aroundS at_ l0 r0).1.2).2.1 == (readLL M41.d key ts (aroundS (IntKind.i64.wrap (at_ + la)) l1 r1).1.1 (aroundS (IntKind.i64.wrap (at_ + la)) l1 r1).1.2).2.1)) = true := by rw [hN2]; exact beq_self_eq_true _
                            replace hK := hK.sub (d := 244) (v' := .bool true) rfl (congrArg Value.bool hd89)
                            refine st_skip (d := 245) hK rfl rfl rfl ?_
                            clear hK a; intro a hK
                            refine st_skip (d := 246) hK rfl rfl rfl ?_
                            clear hK a; intro a hK
                            refine st_skip (d := 247) hK rfl rfl rfl ?_
                            clear hK a; intro a hK
                            refine st_skip (d := 248) hK rfl rfl rfl ?_
                            clear hK a; intro a hK
                            refine st_skip (d := 249) hK rfl rfl rfl ?_
                            clear hK a; intro a hK
                            refine st_op (d := 250) (v' := .bool true) (vs := []) (obs := []) hK rfl (fun _ => by kernel_rfl) trivial rfl rfl rfl ?_
                            clear hK a; intro a hK
                            refine st_op (d := 251) (v' := .bool true) (vs := []) (obs := []) hK rfl (fun _ => by kernel_rfl) trivial rfl rfl rfl ?_
                            clear hK a; intro a hK
                            refine st_op (d := 16) (v' := .bool true) (vs := []) (obs := []) hK rfl (fun _ => by kernel_rfl) trivial rfl rfl rfl ?_
                            clear hK a; intro a hK
                            refine wpList_nil ?_
                            replace hK := hK.weak (K' := [(16, .bool true)]) ⟨rfl, trivial⟩
                            refine xt_norm ?_
                            refine wp_ret ?_
                            refine vc_ret (v' := .bool true) (vs := []) (obs := []) hK (fun _ => by kernel_rfl) trivial rfl ?_
                            exact ⟨rfl, hE.b⟩
                          · have hc83p := of_decide_eq_false hc83
                            replace hK := hK.sub (d := 205) (v' := .bool false) rfl (congrArg Value.bool hc83)
                            refine st_skip (d := 206) hK rfl rfl rfl ?_
                            clear hK a; intro a hK
                            refine st_skip (d := 207) hK rfl rfl rfl ?_
                            clear hK a; intro a hK
                            refine st_op (d := 208) (v' := .bool false) (vs := []) (obs := []) hK rfl (fun _ => by kernel_rfl) trivial rfl rfl rfl ?_
                            clear hK a; intro a hK
                            refine st_op (d := 40) (v' := .bool false) (vs := []) (obs := []) hK rfl (fun _ => by kernel_rfl) trivial rfl rfl rfl ?_
                            clear hK a; intro a hK
                            refine wpList_nil ?_
                            refine xt_norm ?_
                            refine wp_seq ?_
                            refine wp_region_lit ?_
                            refine st_op (d := 209) (v' := .bool true) (vs := []) (obs := []) hK rfl (fun _ => by kernel_rfl) trivial rfl rfl rfl ?_
                            clear hK a; intro a hK
                            refine st_op (d := 210) (v' := .bool true) (vs := []) (obs := []) hK rfl (fun _ => by kernel_rfl) trivial rfl rfl rfl ?_
                            clear hK a; intro a hK
                            refine st_op (d := 211) (v' := .int .i64 (readLL M51.d key ts (aroundS (IntKind.i64.wrap ((IntKind.i64.wrap (at_ + la)) + lb)) l2 r2).1.1 (aroundS (IntKind.i64.wrap ((IntKind.i64.wrap (at_ + la)) + lb)) l2 r2).1.2).2.2) (vs := []) (obs := []) hK rfl (fun _ => by kernel_rfl) trivial rfl rfl rfl ?_
                            clear hK a; intro a hK
                            refine st_op (d := 212) (v' := .bool ((readLL M51.d key ts (aroundS (IntKind.i64.wrap ((IntKind.i64.wrap (at_ + la)) + lb)) l2 r2).1.1 (aroundS (IntKind.i64.wrap ((IntKind.i64.wrap (at_ + la)) + lb)) l2 r2).1.2).2.2 == 0)) (vs := []) (obs := []) hK rfl (fun _ => by kernel_rfl) trivial rfl rfl rfl ?_
                            clear hK a; intro a hK
                            refine st_op (d := 213) (v' := .bool ((readLL M51.d key ts (aroundS (IntKind.i64.wrap ((IntKind.i64.wrap (at_ + la)) + lb)) l2 r2).1.1 (aroundS (IntKind.i64.wrap ((IntKind.i64.wrap (at_ + la)) + lb)) l2 r2).1.2).2.2 == 0)) (vs := []) (obs := []) hK rfl (fun _ => by kernel_rfl) trivial rfl rfl rfl ?_
                            clear hK a; intro a hK
                            have hd90 : (((readLL M51.d key ts (aroundS (IntKind.i64.wrap ((IntKind.i64.wrap (at_ + la)) + lb)) l2 r2).1.1 (aroundS (IntKind.i64.wrap ((IntKind.i64.wrap (at_ + la)) + lb)) l2 r2).1.2).2.2 == 0)) = true := by rw [hN1]; exact hc40
                            replace hK := hK.sub (d := 213) (v' := .bool true) rfl (congrArg Value.bool hd90)
                            refine st_op (d := 214) (v' := .agg #[.int .i64 (readLL L.d key ts (aroundS at_ l0 r0).1.1 (aroundS at_ l0 r0).1.2).1.key, .int .i64 (readLL L.d key ts (aroundS at_ l0 r0).1.1 (aroundS at_ l0 r0).1.2).1.ts, .int .i64 (readLL L.d key ts (aroundS at_ l0 r0).1.1 (aroundS at_ l0 r0).1.2).1.value, .bool (readLL L.d key ts (aroundS at_ l0 r0).1.1 (aroundS at_ l0 r0).1.2).1.gone]) (vs := [.int .i64 (readLL L.d key ts (aroundS at_ l0 r0).1.1 (aroundS at_ l0 r0).1.2).1.key, .int .i64 (readLL L.d key ts (aroundS at_ l0 r0).1.1 (aroundS at_ l0 r0).1.2).1.ts, .int .i64 (readLL L.d key ts (aroundS at_ l0 r0).1.1 (aroundS at_ l0 r0).1.2).1.value, .bool (readLL L.d key ts (aroundS at_ l0 r0).1.1 (aroundS at_ l0 r0).1.2).1.gone]) (obs := [(⟨g37, 0, none⟩, .int .i64 (readLL L.d key ts (aroundS at_ l0 r0).1.1 (aroundS at_ l0 r0).1.2).1.key), (⟨g37, 1, none⟩, .int .i64 (readLL L.d key ts (aroundS at_ l0 r0).1.1 (aroundS at_ l0 r0).1.2).1.ts), (⟨g37, 2, none⟩, .int .i64 (readLL L.d key ts (aroundS at_ l0 r0).1.1 (aroundS at_ l0 r0).1.2).1.value), (⟨g37, 3, none⟩, .bool (readLL L.d key ts (aroundS at_ l0 r0).1.1 (aroundS at_ l0 r0).1.2).1.gone)]) hK rfl (fun _ => by kernel_rfl) ⟨((hE.blk 9 rfl).cell 0).trans rfl, ((hE.blk 9 rfl).cell 1).trans rfl, ((hE.blk 9 rfl).cell 2).trans rfl, ((hE.blk 9 rfl).cell 3).trans rfl, trivial⟩ rfl rfl rfl ?_
                            clear hK a; intro a hK
                            refine st_op (d := 215) (v' := .agg #[.int .i64 (readLL M51.d key ts (aroundS (IntKind.i64.wrap ((IntKind.i64.wrap (at_ + la)) + lb)) l2 r2).1.1 (aroundS (IntKind.i64.wrap ((IntKind.i64.wrap (at_ + la)) + lb)) l2 r2).1.2).1.key, .int .i64 (readLL M51.d key ts (aroundS (IntKind.i64.wrap ((IntKind.i64.wrap (at_ + la)) + lb)) l2 r2).1.1 (aroundS (IntKind.i64.wrap ((IntKind.i64.wrap (at_ + la)) + lb)) l2 r2).1.2).1.ts, .int .i64 (readLL M51.d key ts (aroundS (IntKind.i64.wrap ((IntKind.i64.wrap (at_ + la)) + lb)) l2 r2).1.1 (aroundS (IntKind.i64.wrap ((IntKind.i64.wrap (at_ + la)) + lb)) l2 r2).1.2).1.value, .bool (readLL M51.d key ts (aroundS (IntKind.i64.wrap ((IntKind.i64.wrap (at_ + la)) + lb)) l2 r2).1.1 (aroundS (IntKind.i64.wrap ((IntKind.i64.wrap (at_ + la)) + lb)) l2 r2).1.2).1.gone]) (vs := [.int .i64 (readLL M51.d key ts (aroundS (IntKind.i64.wrap ((IntKind.i64.wrap (at_ + la)) + lb)) l2 r2).1.1 (aroundS (IntKind.i64.wrap ((IntKind.i64.wrap (at_ + la)) + lb)) l2 r2).1.2).1.key, .int .i64 (readLL M51.d key ts (aroundS (IntKind.i64.wrap ((IntKind.i64.wrap (at_ + la)) + lb)) l2 r2).1.1 (aroundS (IntKind.i64.wrap ((IntKind.i64.wrap (at_ + la)) + lb)) l2 r2).1.2).1.ts, .int .i64 (readLL M51.d key ts (aroundS (IntKind.i64.wrap ((IntKind.i64.wrap (at_ + la)) + lb)) l2 r2).1.1 (aroundS (IntKind.i64.wrap ((IntKind.i64.wrap (at_ + la)) + lb)) l2 r2).1.2).1.value, .bool (readLL M51.d key ts (aroundS (IntKind.i64.wrap ((IntKind.i64.wrap (at_ + la)) + lb)) l2 r2).1.1 (aroundS (IntKind.i64.wrap ((IntKind.i64.wrap (at_ + la)) + lb)) l2 r2).1.2).1.gone]) (obs := [(⟨g60, 0, none⟩, .int .i64 (readLL M51.d key ts (aroundS (IntKind.i64.wrap ((IntKind.i64.wrap (at_ + la)) + lb)) l2 r2).1.1 (aroundS (IntKind.i64.wrap ((IntKind.i64.wrap (at_ + la)) + lb)) l2 r2).1.2).1.key), (⟨g60, 1, none⟩, .int .i64 (readLL M51.d key ts (aroundS (IntKind.i64.wrap ((IntKind.i64.wrap (at_ + la)) + lb)) l2 r2).1.1 (aroundS (IntKind.i64.wrap ((IntKind.i64.wrap (at_ + la)) + lb)) l2 r2).1.2).1.ts), (⟨g60, 2, none⟩, .int .i64 (readLL M51.d key ts (aroundS (IntKind.i64.wrap ((IntKind.i64.wrap (at_ + la)) + lb)) l2 r2).1.1 (aroundS (IntKind.i64.wrap ((IntKind.i64.wrap (at_ + la)) + lb)) l2 r2).1.2).1.value), (⟨g60, 3, none⟩, .bool (readLL M51.d key ts (aroundS (IntKind.i64.wrap ((IntKind.i64.wrap (at_ + la)) + lb)) l2 r2).1.1 (aroundS (IntKind.i64.wrap ((IntKind.i64.wrap (at_ + la)) + lb)) l2 r2).1.2).1.gone)]) hK rfl (fun _ => by kernel_rfl) ⟨((hE.blk 1 rfl).cell 0).trans rfl, ((hE.blk 1 rfl).cell 1).trans rfl, ((hE.blk 1 rfl).cell 2).trans rfl, ((hE.blk 1 rfl).cell 3).trans rfl, trivial⟩ rfl rfl rfl ?_
                            clear hK a; intro a hK
                            refine st_run (d := 216) (v' := .bool (eqB (readLL L.d key ts (aroundS at_ l0 r0).1.1 (aroundS at_ l0 r0).1.2).1.key (readLL L.d key ts (aroundS at_ l0 r0).1.1 (aroundS at_ l0 r0).1.2).1.ts (readLL L.d key ts (aroundS at_ l0 r0).1.1 (aroundS at_ l0 r0).1.2).1.value (readLL L.d key ts (aroundS at_ l0 r0).1.1 (aroundS at_ l0 r0).1.2).1.gone (readLL M51.d key ts (aroundS (IntKind.i64.wrap ((IntKind.i64.wrap (at_ + la)) + lb)) l2 r2).1.1 (aroundS (IntKind.i64.wrap ((IntKind.i64.wrap (at_ + la)) + lb)) l2 r2).1.2).1.key (readLL M51.d key ts (aroundS (IntKind.i64.wrap ((IntKind.i64.wrap (at_ + la)) + lb)) l2 r2).1.1 (aroundS (IntKind.i64.wrap ((IntKind.i64.wrap (at_ + la)) + lb)) l2 r2).1.2).1.ts (readLL M51.d key ts (aroundS (IntKind.i64.wrap ((IntKind.i64.wrap (at_ + la)) + lb)) l2 r2).1.1 (aroundS (IntKind.i64.wrap ((IntKind.i64.wrap (at_ + la)) + lb)) l2 r2).1.2).1.value (readLL M51.d key ts (aroundS (IntKind.i64.wrap ((IntKind.i64.wrap (at_ + la)) + lb)) l2 r2).1.1 (aroundS (IntKind.i64.wrap ((IntKind.i64.wrap (at_ + la)) + lb)) l2 r2).1.2).1.gone)) hK rfl (ex_eq rfl (fun _ => rfl) (fun _ => rfl) (by kernel_rfl) (fun W => eqlV (readLL L.d key ts (aroundS at_ l0 r0).1.1 (aroundS at_ l0 r0).1.2).1.key (readLL L.d key ts (aroundS at_ l0 r0).1.1 (aroundS at_ l0 r0).1.2).1.ts (readLL L.d key ts (aroundS at_ l0 r0).1.1 (aroundS at_ l0 r0).1.2).1.value (readLL M51.d key ts (aroundS (IntKind.i64.wrap ((IntKind.i64.wrap (at_ + la)) + lb)) l2 r2).1.1 (aroundS (IntKind.i64.wrap ((IntKind.i64.wrap (at_ + la)) + lb)) l2 r2).1.2).1.key (readLL M51.d key ts (aroundS (IntKind.i64.wrap ((IntKind.i64.wrap (at_ + la)) + lb)) l2 r2).1.1 (aroundS (IntKind.i64.wrap ((IntKind.i64.wrap (at_ + la)) + lb)) l2 r2).1.2).1.ts (readLL M51.d key ts (aroundS (IntKind.i64.wrap ((IntKind.i64.wrap (at_ + la)) + lb)) l2 r2).1.1 (aroundS (IntKind.i64.wrap ((IntKind.i64.wrap (at_ + la)) + lb)) l2 r2).1.2).1.value (readLL L.d key ts (aroundS at_ l0 r0).1.1 (aroundS at_ l0 r0).1.2).1.gone (readLL M51.d key ts (aroundS (IntKind.i64.wrap ((IntKind.i64.wrap (at_ + la)) + lb)) l2 r2).1.1 (aroundS (IntKind.i64.wrap ((IntKind.i64.wrap (at_ + la)) + lb)) l2 r2).1.2).1.gone W)) rfl rfl rfl ?_
                            clear hK a; intro a hK
                            refine st_op (d := 217) (v' := .bool (eqB (readLL L.d key ts (aroundS at_ l0 r0).1.1 (aroundS at_ l0 r0).1.2).1.key (readLL L.d key ts (aroundS at_ l0 r0).1.1 (aroundS at_ l0 r0).1.2).1.ts (readLL L.d key ts (aroundS at_ l0 r0).1.1 (aroundS at_ l0 r0).1.2).1.value (readLL L.d key ts (aroundS at_ l0 r0).1.1 (aroundS at_ l0 r0).1.2).1.gone (readLL M51.d key ts (aroundS (IntKind.i64.wrap ((IntKind.i64.wrap (at_ + la)) + lb)) l2 r2).1.1 (aroundS (IntKind.i64.wrap ((IntKind.i64.wrap (at_ + la)) + lb)) l2 r2).1.2).1.key (readLL M51.d key ts (aroundS (IntKind.i64.wrap ((IntKind.i64.wrap (at_ + la)) + lb)) l2 r2).1.1 (aroundS (IntKind.i64.wrap ((IntKind.i64.wrap (at_ + la)) + lb)) l2 r2).1.2).1.ts (readLL M51.d key ts (aroundS (IntKind.i64.wrap ((IntKind.i64.wrap (at_ + la)) + lb)) l2 r2).1.1 (aroundS (IntKind.i64.wrap ((IntKind.i64.wrap (at_ + la)) + lb)) l2 r2).1.2).1.value (readLL M51.d key ts (aroundS (IntKind.i64.wrap ((IntKind.i64.wrap (at_ + la)) + lb)) l2 r2).1.1 (aroundS (IntKind.i64.wrap ((IntKind.i64.wrap (at_ + la)) + lb)) l2 r2).1.2).1.gone)) (vs := []) (obs := []) hK rfl (fun _ => by kernel_rfl) trivial rfl rfl rfl ?_
                            clear hK a; intro a hK
                            refine st_op (d := 218) (v' := .bool (eqB (readLL L.d key ts (aroundS at_ l0 r0).1.1 (aroundS at_ l0 r0).1.2).1.key (readLL L.d key ts (aroundS at_ l0 r0).1.1 (aroundS at_ l0 r0).1.2).1.ts (readLL L.d key ts (aroundS at_ l0 r0).1.1 (aroundS at_ l0 r0).1.2).1.value (readLL L.d key ts (aroundS at_ l0 r0).1.1 (aroundS at_ l0 r0).1.2).1.gone (readLL M51.d key ts (aroundS (IntKind.i64.wrap ((IntKind.i64.wrap (at_ + la)) + lb)) l2 r2).1.1 (aroundS (IntKind.i64.wrap ((IntKind.i64.wrap (at_ + la)) + lb)) l2 r2).1.2).1.key (readLL M51.d key ts (aroundS (IntKind.i64.wrap ((IntKind.i64.wrap (at_ + la)) + lb)) l2 r2).1.1 (aroundS (IntKind.i64.wrap ((IntKind.i64.wrap (at_ + la)) + lb)) l2 r2).1.2).1.ts (readLL M51.d key ts (aroundS (IntKind.i64.wrap ((IntKind.i64.wrap (at_ + la)) + lb)) l2 r2).1.1 (aroundS (IntKind.i64.wrap ((IntKind.i64.wrap (at_ + la)) + lb)) l2 r2).1.2).1.value (readLL M51.d key ts (aroundS (IntKind.i64.wrap ((IntKind.i64.wrap (at_ + la)) + lb)) l2 r2).1.1 (aroundS (IntKind.i64.wrap ((IntKind.i64.wrap (at_ + la)) + lb)) l2 r2).1.2).1.gone)) (vs := []) (obs := []) hK rfl (fun _ => by kernel_rfl) trivial rfl rfl rfl ?_
                            clear hK a; intro a hK
                            have hd91 : (eqB (readLL L.d key ts (aroundS at_ l0 r0).1.1 (aroundS at_ l0 r0).1.2).1.key (readLL L.d key ts (aroundS at_ l0 r0).1.1 (aroundS at_ l0 r0).1.2).1.ts (readLL L.d key ts (aroundS at_ l0 r0).1.1 (aroundS at_ l0 r0).1.2).1.value (readLL L.d key ts (aroundS at_ l0 r0).1.1 (aroundS at_ l0 r0).1.2).1.gone (readLL M51.d key ts (aroundS (IntKind.i64.wrap ((IntKind.i64.wrap (at_ + la)) + lb)) l2 r2).1.1 (aroundS (IntKind.i64.wrap ((IntKind.i64.wrap (at_ + la)) + lb)) l2 r2).1.2).1.key (readLL M51.d key ts (aroundS (IntKind.i64.wrap ((IntKind.i64.wrap (at_ + la)) + lb)) l2 r2).1.1 (aroundS (IntKind.i64.wrap ((IntKind.i64.wrap (at_ + la)) + lb)) l2 r2).1.2).1.ts (readLL M51.d key ts (aroundS (IntKind.i64.wrap ((IntKind.i64.wrap (at_ + la)) + lb)) l2 r2).1.1 (aroundS (IntKind.i64.wrap ((IntKind.i64.wrap (at_ + la)) + lb)) l2 r2).1.2).1.value (readLL M51.d key ts (aroundS (IntKind.i64.wrap ((IntKind.i64.wrap (at_ + la)) + lb)) l2 r2).1.1 (aroundS (IntKind.i64.wrap ((IntKind.i64.wrap (at_ + la)) + lb)) l2 r2).1.2).1.gone) = true := by rw [hN1]; exact decide_eq_true rfl
                            replace hK := hK.sub (d := 218) (v' := .bool true) rfl (congrArg Value.bool hd91)
                            refine st_op (d := 219) (v' := .bool (readLL L.d key ts (aroundS at_ l0 r0).1.1 (aroundS at_ l0 r0).1.2).2.1) (vs := []) (obs := []) hK rfl (fun _ => by kernel_rfl) trivial rfl rfl rfl ?_
                            clear hK a; intro a hK
                            refine st_op (d := 220) (v' := .bool (readLL M51.d key ts (aroundS (IntKind.i64.wrap ((IntKind.i64.wrap (at_ + la)) + lb)) l2 r2).1.1 (aroundS (IntKind.i64.wrap ((IntKind.i64.wrap (at_ + la)) + lb)) l2 r2).1.2).2.1) (vs := []) (obs := []) hK rfl (fun _ => by kernel_rfl) trivial rfl rfl rfl ?_
                            clear hK a; intro a hK
                            refine st_op (d := 221) (v' := .bool ((readLL L.d key ts (aroundS at_ l0 r0).1.1 (aroundS at_ l0 r0).1.2).2.1 == (readLL M51.d key ts (aroundS (IntKind.i64.wrap ((IntKind.i64.wrap (at_ + la)) + lb)) l2 r2).1.1 (aroundS (IntKind.i64.wrap ((IntKind.i64.wrap (at_ + la)) + lb)) l2 r2).1.2).2.1)) (vs := []) (obs := []) hK rfl (fun _ => by kernel_rfl) trivial rfl rfl rfl ?_
                            clear hK a; intro a hK
                            refine st_op (d := 222) (v' := .bool ((readLL L.d key ts (aroundS at_ l0 r0).1.1 (aroundS at_ l0 r0).1.2).2.1 == (readLL M51.d key ts (aroundS (IntKind.i64.wrap ((IntKind.i64.wrap (at_ + la)) + lb)) l2 r2).1.1 (aroundS (IntKind.i64.wrap ((IntKind.i64.wrap (at_ + la)) + lb)) l2 r2).1.2).2.1)) (vs := []) (obs := []) hK rfl (fun _ => by kernel_rfl) trivial rfl rfl rfl ?_
                            clear hK a; intro a hK
                            refine st_op (d := 223) (v' := .bool ((readLL L.d key ts (aroundS at_ l0 r0).1.1 (aroundS at_ l0 r0).1.2).2.1 == (readLL M51.d key ts (aroundS (IntKind.i64.wrap ((IntKind.i64.wrap (at_ + la)) + lb)) l2 r2).1.1 (aroundS (IntKind.i64.wrap ((IntKind.i64.wrap (at_ + la)) + lb)) l2 r2).1.2).2.1)) (vs := []) (obs := []) hK rfl (fun _ => by kernel_rfl) trivial rfl rfl rfl ?_
                            clear hK a; intro a hK
                            have hd92 : (((readLL L.d key ts (aroundS at_ l0 r0).1.1 (aroundS at_ l0 r0).1.2).2.1 == (readLL M51.d key ts (aroundS (IntKind.i64.wrap ((IntKind.i64.wrap (at_ + la)) + lb)) l2 r2).1.1 (aroundS (IntKind.i64.wrap ((IntKind.i64.wrap (at_ + la)) + lb)) l2 r2).1.2).2.1)) = true := by rw [hN1]; exact beq_self_eq_true _
                            replace hK := hK.sub (d := 223) (v' := .bool true) rfl (congrArg Value.bool hd92)
                            refine st_skip (d := 224) hK rfl rfl rfl ?_
                            clear hK a; intro a hK
                            refine st_skip (d := 225) hK rfl rfl rfl ?_
                            clear hK a; intro a hK
                            refine st_skip (d := 226) hK rfl rfl rfl ?_
                            clear hK a; intro a hK
                            refine st_skip (d := 227) hK rfl rfl rfl ?_
                            clear hK a; intro a hK
                            refine st_skip (d := 228) hK rfl rfl rfl ?_
                            clear hK a; intro a hK
                            refine st_op (d := 229) (v' := .bool true) (vs := []) (obs := []) hK rfl (fun _ => by kernel_rfl) trivial rfl rfl rfl ?_
                            clear hK a; intro a hK
                            refine st_op (d := 230) (v' := .bool true) (vs := []) (obs := []) hK rfl (fun _ => by kernel_rfl) trivial rfl rfl rfl ?_
                            clear hK a; intro a hK
                            refine st_op (d := 231) (v' := .bool true) (vs := []) (obs := []) hK rfl (fun _ => by kernel_rfl) trivial rfl rfl rfl ?_
                            clear hK a; intro a hK
                            refine st_op (d := 232) (v' := .int .i64 (readLL M41.d key ts (aroundS (IntKind.i64.wrap (at_ + la)) l1 r1).1.1 (aroundS (IntKind.i64.wrap (at_ + la)) l1 r1).1.2).2.2) (vs := []) (obs := []) hK rfl (fun _ => by kernel_rfl) trivial rfl rfl rfl ?_
                            clear hK a; intro a hK
                            refine st_op (d := 233) (v' := .bool ((readLL M41.d key ts (aroundS (IntKind.i64.wrap (at_ + la)) l1 r1).1.1 (aroundS (IntKind.i64.wrap (at_ + la)) l1 r1).1.2).2.2 == 0)) (vs := []) (obs := []) hK rfl (fun _ => by kernel_rfl) trivial rfl rfl rfl ?_
                            clear hK a; intro a hK
                            refine st_op (d := 234) (v' := .bool ((readLL M41.d key ts (aroundS (IntKind.i64.wrap (at_ + la)) l1 r1).1.1 (aroundS (IntKind.i64.wrap (at_ + la)) l1 r1).1.2).2.2 == 0)) (vs := []) (obs := []) hK rfl (fun _ => by kernel_rfl) trivial rfl rfl rfl ?_
                            clear hK a; intro a hK
                            have hd93 : (((readLL M41.d key ts (aroundS (IntKind.i64.wrap (at_ + la)) l1 r1).1.1 (aroundS (IntKind.i64.wrap (at_ + la)) l1 r1).1.2).2.2 == 0)) = true := by rw [hN2]; exact hc40
                            replace hK := hK.sub (d := 234) (v' := .bool true) rfl (congrArg Value.bool hd93)
                            refine st_op (d := 235) (v' := .agg #[.int .i64 (readLL L.d key ts (aroundS at_ l0 r0).1.1 (aroundS at_ l0 r0).1.2).1.key, .int .i64 (readLL L.d key ts (aroundS at_ l0 r0).1.1 (aroundS at_ l0 r0).1.2).1.ts, .int .i64 (readLL L.d key ts (aroundS at_ l0 r0).1.1 (aroundS at_ l0 r0).1.2).1.value, .bool (readLL L.d key ts (aroundS at_ l0 r0).1.1 (aroundS at_ l0 r0).1.2).1.gone]) (vs := [.int .i64 (readLL L.d key ts (aroundS at_ l0 r0).1.1 (aroundS at_ l0 r0).1.2).1.key, .int .i64 (readLL L.d key ts (aroundS at_ l0 r0).1.1 (aroundS at_ l0 r0).1.2).1.ts, .int .i64 (readLL L.d key ts (aroundS at_ l0 r0).1.1 (aroundS at_ l0 r0).1.2).1.value, .bool (readLL L.d key ts (aroundS at_ l0 r0).1.1 (aroundS at_ l0 r0).1.2).1.gone]) (obs := [(⟨g37, 0, none⟩, .int .i64 (readLL L.d key ts (aroundS at_ l0 r0).1.1 (aroundS at_ l0 r0).1.2).1.key), (⟨g37, 1, none⟩, .int .i64 (readLL L.d key ts (aroundS at_ l0 r0).1.1 (aroundS at_ l0 r0).1.2).1.ts), (⟨g37, 2, none⟩, .int .i64 (readLL L.d key ts (aroundS at_ l0 r0).1.1 (aroundS at_ l0 r0).1.2).1.value), (⟨g37, 3, none⟩, .bool (readLL L.d key ts (aroundS at_ l0 r0).1.1 (aroundS at_ l0 r0).1.2).1.gone)]) hK rfl (fun _ => by kernel_rfl) ⟨((hE.blk 9 rfl).cell 0).trans rfl, ((hE.blk 9 rfl).cell 1).trans rfl, ((hE.blk 9 rfl).cell 2).trans rfl, ((hE.blk 9 rfl).cell 3).trans rfl, trivial⟩ rfl rfl rfl ?_
                            clear hK a; intro a hK
                            refine st_op (d := 236) (v' := .agg #[.int .i64 (readLL M41.d key ts (aroundS (IntKind.i64.wrap (at_ + la)) l1 r1).1.1 (aroundS (IntKind.i64.wrap (at_ + la)) l1 r1).1.2).1.key, .int .i64 (readLL M41.d key ts (aroundS (IntKind.i64.wrap (at_ + la)) l1 r1).1.1 (aroundS (IntKind.i64.wrap (at_ + la)) l1 r1).1.2).1.ts, .int .i64 (readLL M41.d key ts (aroundS (IntKind.i64.wrap (at_ + la)) l1 r1).1.1 (aroundS (IntKind.i64.wrap (at_ + la)) l1 r1).1.2).1.value, .bool (readLL M41.d key ts (aroundS (IntKind.i64.wrap (at_ + la)) l1 r1).1.1 (aroundS (IntKind.i64.wrap (at_ + la)) l1 r1).1.2).1.gone]) (vs := [.int .i64 (readLL M41.d key ts (aroundS (IntKind.i64.wrap (at_ + la)) l1 r1).1.1 (aroundS (IntKind.i64.wrap (at_ + la)) l1 r1).1.2).1.key, .int .i64 (readLL M41.d key ts (aroundS (IntKind.i64.wrap (at_ + la)) l1 r1).1.1 (aroundS (IntKind.i64.wrap (at_ + la)) l1 r1).1.2).1.ts, .int .i64 (readLL M41.d key ts (aroundS (IntKind.i64.wrap (at_ + la)) l1 r1).1.1 (aroundS (IntKind.i64.wrap (at_ + la)) l1 r1).1.2).1.value, .bool (readLL M41.d key ts (aroundS (IntKind.i64.wrap (at_ + la)) l1 r1).1.1 (aroundS (IntKind.i64.wrap (at_ + la)) l1 r1).1.2).1.gone]) (obs := [(⟨g64, 0, none⟩, .int .i64 (readLL M41.d key ts (aroundS (IntKind.i64.wrap (at_ + la)) l1 r1).1.1 (aroundS (IntKind.i64.wrap (at_ + la)) l1 r1).1.2).1.key), (⟨g64, 1, none⟩, .int .i64 (readLL M41.d key ts (aroundS (IntKind.i64.wrap (at_ + la)) l1 r1).1.1 (aroundS (IntKind.i64.wrap (at_ + la)) l1 r1).1.2).1.ts), (⟨g64, 2, none⟩, .int .i64 (readLL M41.d key ts (aroundS (IntKind.i64.wrap (at_ + la)) l1 r1).1.1 (aroundS (IntKind.i64.wrap (at_ + la)) l1 r1).1.2).1.value), (⟨g64, 3, none⟩, .bool (readLL M41.d key ts (aroundS (IntKind.i64.wrap (at_ + la)) l1 r1).1.1 (aroundS (IntKind.i64.wrap (at_ + la)) l1 r1).1.2).1.gone)]) hK rfl (fun _ => by kernel_rfl) ⟨((hE.blk 0 rfl).cell 0).trans rfl, ((hE.blk 0 rfl).cell 1).trans rfl, ((hE.blk 0 rfl).cell 2).trans rfl, ((hE.blk 0 rfl).cell 3).trans rfl, trivial⟩ rfl rfl rfl ?_
                            clear hK a; intro a hK
                            refine st_run (d := 237) (v' := .bool (eqB (readLL L.d key ts (aroundS at_ l0 r0).1.1 (aroundS at_ l0 r0).1.2).1.key (readLL L.d key ts (aroundS at_ l0 r0).1.1 (aroundS at_ l0 r0).1.2).1.ts (readLL L.d key ts (aroundS at_ l0 r0).1.1 (aroundS at_ l0 r0).1.2).1.value (readLL L.d key ts (aroundS at_ l0 r0).1.1 (aroundS at_ l0 r0).1.2).1.gone (readLL M41.d key ts (aroundS (IntKind.i64.wrap (at_ + la)) l1 r1).1.1 (aroundS (IntKind.i64.wrap (at_ + la)) l1 r1).1.2).1.key (readLL M41.d key ts (aroundS (IntKind.i64.wrap (at_ + la)) l1 r1).1.1 (aroundS (IntKind.i64.wrap (at_ + la)) l1 r1).1.2).1.ts (readLL M41.d key ts (aroundS (IntKind.i64.wrap (at_ + la)) l1 r1).1.1 (aroundS (IntKind.i64.wrap (at_ + la)) l1 r1).1.2).1.value (readLL M41.d key ts (aroundS (IntKind.i64.wrap (at_ + la)) l1 r1).1.1 (aroundS (IntKind.i64.wrap (at_ + la)) l1 r1).1.2).1.gone)) hK rfl (ex_eq rfl (fun _ => rfl) (fun _ => rfl) (by kernel_rfl) (fun W => eqlV (readLL L.d key ts (aroundS at_ l0 r0).1.1 (aroundS at_ l0 r0).1.2).1.key (readLL L.d key ts (aroundS at_ l0 r0).1.1 (aroundS at_ l0 r0).1.2).1.ts (readLL L.d key ts (aroundS at_ l0 r0).1.1 (aroundS at_ l0 r0).1.2).1.value (readLL M41.d key ts (aroundS (IntKind.i64.wrap (at_ + la)) l1 r1).1.1 (aroundS (IntKind.i64.wrap (at_ + la)) l1 r1).1.2).1.key (readLL M41.d key ts (aroundS (IntKind.i64.wrap (at_ + la)) l1 r1).1.1 (aroundS (IntKind.i64.wrap (at_ + la)) l1 r1).1.2).1.ts (readLL M41.d key ts (aroundS (IntKind.i64.wrap (at_ + la)) l1 r1).1.1 (aroundS (IntKind.i64.wrap (at_ + la)) l1 r1).1.2).1.value (readLL L.d key ts (aroundS at_ l0 r0).1.1 (aroundS at_ l0 r0).1.2).1.gone (readLL M41.d key ts (aroundS (IntKind.i64.wrap (at_ + la)) l1 r1).1.1 (aroundS (IntKind.i64.wrap (at_ + la)) l1 r1).1.2).1.gone W)) rfl rfl rfl ?_
                            clear hK a; intro a hK
                            refine st_op (d := 238) (v' := .bool (eqB (readLL L.d key ts (aroundS at_ l0 r0).1.1 (aroundS at_ l0 r0).1.2).1.key (readLL L.d key ts (aroundS at_ l0 r0).1.1 (aroundS at_ l0 r0).1.2).1.ts (readLL L.d key ts (aroundS at_ l0 r0).1.1 (aroundS at_ l0 r0).1.2).1.value (readLL L.d key ts (aroundS at_ l0 r0).1.1 (aroundS at_ l0 r0).1.2).1.gone (readLL M41.d key ts (aroundS (IntKind.i64.wrap (at_ + la)) l1 r1).1.1 (aroundS (IntKind.i64.wrap (at_ + la)) l1 r1).1.2).1.key (readLL M41.d key ts (aroundS (IntKind.i64.wrap (at_ + la)) l1 r1).1.1 (aroundS (IntKind.i64.wrap (at_ + la)) l1 r1).1.2).1.ts (readLL M41.d key ts (aroundS (IntKind.i64.wrap (at_ + la)) l1 r1).1.1 (aroundS (IntKind.i64.wrap (at_ + la)) l1 r1).1.2).1.value (readLL M41.d key ts (aroundS (IntKind.i64.wrap (at_ + la)) l1 r1).1.1 (aroundS (IntKind.i64.wrap (at_ + la)) l1 r1).1.2).1.gone)) (vs := []) (obs := []) hK rfl (fun _ => by kernel_rfl) trivial rfl rfl rfl ?_
                            clear hK a; intro a hK
                            refine st_op (d := 239) (v' := .bool (eqB (readLL L.d key ts (aroundS at_ l0 r0).1.1 (aroundS at_ l0 r0).1.2).1.key (readLL L.d key ts (aroundS at_ l0 r0).1.1 (aroundS at_ l0 r0).1.2).1.ts (readLL L.d key ts (aroundS at_ l0 r0).1.1 (aroundS at_ l0 r0).1.2).1.value (readLL L.d key ts (aroundS at_ l0 r0).1.1 (aroundS at_ l0 r0).1.2).1.gone (readLL M41.d key ts (aroundS (IntKind.i64.wrap (at_ + la)) l1 r1).1.1 (aroundS (IntKind.i64.wrap (at_ + la)) l1 r1).1.2).1.key (readLL M41.d key ts (aroundS (IntKind.i64.wrap (at_ + la)) l1 r1).1.1 (aroundS (IntKind.i64.wrap (at_ + la)) l1 r1).1.2).1.ts (readLL M41.d key ts (aroundS (IntKind.i64.wrap (at_ + la)) l1 r1).1.1 (aroundS (IntKind.i64.wrap (at_ + la)) l1 r1).1.2).1.value (readLL M41.d key ts (aroundS (IntKind.i64.wrap (at_ + la)) l1 r1).1.1 (aroundS (IntKind.i64.wrap (at_ + la)) l1 r1).1.2).1.gone)) (vs := []) (obs := []) hK rfl (fun _ => by kernel_rfl) trivial rfl rfl rfl ?_
                            clear hK a; intro a hK
                            have hd94 : (eqB (readLL L.d key ts (aroundS at_ l0 r0).1.1 (aroundS at_ l0 r0).1.2).1.key (readLL L.d key ts (aroundS at_ l0 r0).1.1 (aroundS at_ l0 r0).1.2).1.ts (readLL L.d key ts (aroundS at_ l0 r0).1.1 (aroundS at_ l0 r0).1.2).1.value (readLL L.d key ts (aroundS at_ l0 r0).1.1 (aroundS at_ l0 r0).1.2).1.gone (readLL M41.d key ts (aroundS (IntKind.i64.wrap (at_ + la)) l1 r1).1.1 (aroundS (IntKind.i64.wrap (at_ + la)) l1 r1).1.2).1.key (readLL M41.d key ts (aroundS (IntKind.i64.wrap (at_ + la)) l1 r1).1.1 (aroundS (IntKind.i64.wrap (at_ + la)) l1 r1).1.2).1.ts (readLL M41.d key ts (aroundS (IntKind.i64.wrap (at_ + la)) l1 r1).1.1 (aroundS (IntKind.i64.wrap (at_ + la)) l1 r1).1.2).1.value (readLL M41.d key ts (aroundS (IntKind.i64.wrap (at_ + la)) l1 r1).1.1 (aroundS (IntKind.i64.wrap (at_ + la)) l1 r1).1.2).1.gone) = true := by rw [hN2]; exact decide_eq_true rfl
                            replace hK := hK.sub (d := 239) (v' := .bool true) rfl (congrArg Value.bool hd94)
                            refine st_op (d := 240) (v' := .bool (readLL L.d key ts (aroundS at_ l0 r0).1.1 (aroundS at_ l0 r0).1.2).2.1) (vs := []) (obs := []) hK rfl (fun _ => by kernel_rfl) trivial rfl rfl rfl ?_
                            clear hK a; intro a hK
                            refine st_op (d := 241) (v' := .bool (readLL M41.d key ts (aroundS (IntKind.i64.wrap (at_ + la)) l1 r1).1.1 (aroundS (IntKind.i64.wrap (at_ + la)) l1 r1).1.2).2.1) (vs := []) (obs := []) hK rfl (fun _ => by kernel_rfl) trivial rfl rfl rfl ?_
                            clear hK a; intro a hK
                            refine st_op (d := 242) (v' := .bool ((readLL L.d key ts (aroundS at_ l0 r0).1.1 (aroundS at_ l0 r0).1.2).2.1 == (readLL M41.d key ts (aroundS (IntKind.i64.wrap (at_ + la)) l1 r1).1.1 (aroundS (IntKind.i64.wrap (at_ + la)) l1 r1).1.2).2.1)) (vs := []) (obs := []) hK rfl (fun _ => by kernel_rfl) trivial rfl rfl rfl ?_
                            clear hK a; intro a hK
                            refine st_op (d := 243) (v' := .bool ((readLL L.d key ts (aroundS at_ l0 r0).1.1 (aroundS at_ l0 r0).1.2).2.1 == (readLL M41.d key ts (aroundS (IntKind.i64.wrap (at_ + la)) l1 r1).1.1 (aroundS (IntKind.i64.wrap (at_ + la)) l1 r1).1.2).2.1)) (vs := []) (obs := []) hK rfl (fun _ => by kernel_rfl) trivial rfl rfl rfl ?_
                            clear hK a; intro a hK
                            refine st_op (d := 244) (v' := .bool ((readLL L.d key ts (aroundS at_ l0 r0).1.1 (aroundS at_ l0 r0).1.2).2.1 == (readLL M41.d key ts (aroundS (IntKind.i64.wrap (at_ + la)) l1 r1).1.1 (aroundS (IntKind.i64.wrap (at_ + la)) l1 r1).1.2).2.1)) (vs := []) (obs := []) hK rfl (fun _ => by kernel_rfl) trivial rfl rfl rfl ?_
                            clear hK a; intro a hK
                            have hd95 : (((readLL L.d key ts (aroundS at_ l0 r0).1.1 (aroundS at_ l0 r0).1.2).2.1 == (readLL M41.d key ts (aroundS (IntKind.i64.wrap (at_ + la)) l1 r1).1.1 (aroundS (IntKind.i64.wrap (at_ + la)) l1 r1).1.2).2.1)) = true := by rw [hN2]; exact beq_self_eq_true _
                            replace hK := hK.sub (d := 244) (v' := .bool true) rfl (congrArg Value.bool hd95)
                            refine st_skip (d := 245) hK rfl rfl rfl ?_
                            clear hK a; intro a hK
                            refine st_skip (d := 246) hK rfl rfl rfl ?_
                            clear hK a; intro a hK
                            refine st_skip (d := 247) hK rfl rfl rfl ?_
                            clear hK a; intro a hK
                            refine st_skip (d := 248) hK rfl rfl rfl ?_
                            clear hK a; intro a hK
                            refine st_skip (d := 249) hK rfl rfl rfl ?_
                            clear hK a; intro a hK
                            refine st_op (d := 250) (v' := .bool true) (vs := []) (obs := []) hK rfl (fun _ => by kernel_rfl) trivial rfl rfl rfl ?_
                            clear hK a; intro a hK
                            refine st_op (d := 251) (v' := .bool true) (vs := []) (obs := []) hK rfl (fun _ => by kernel_rfl) trivial rfl rfl rfl ?_
                            clear hK a; intro a hK
                            refine st_op (d := 16) (v' := .bool true) (vs := []) (obs := []) hK rfl (fun _ => by kernel_rfl) trivial rfl rfl rfl ?_
                            clear hK a; intro a hK
                            refine wpList_nil ?_
                            replace hK := hK.weak (K' := [(16, .bool true)]) ⟨rfl, trivial⟩
                            refine xt_norm ?_
                            refine wp_ret ?_
                            refine vc_ret (v' := .bool true) (vs := []) (obs := []) hK (fun _ => by kernel_rfl) trivial rfl ?_
                            exact ⟨rfl, hE.b⟩
                      · have hc68p := of_decide_eq_false hc68
                        replace hK := hK.sub (d := 185) (v' := .bool false) rfl (congrArg Value.bool hc68)
                        refine st_skip (d := 186) hK rfl rfl rfl ?_
                        clear hK a; intro a hK
                        refine st_skip (d := 187) hK rfl rfl rfl ?_
                        clear hK a; intro a hK
                        refine st_skip (d := 188) hK rfl rfl rfl ?_
                        clear hK a; intro a hK
                        refine st_skip (d := 189) hK rfl rfl rfl ?_
                        clear hK a; intro a hK
                        refine st_op (d := 190) (v' := .bool false) (vs := []) (obs := []) hK rfl (fun _ => by kernel_rfl) trivial rfl rfl rfl ?_
                        clear hK a; intro a hK
                        refine st_op (d := 191) (v' := .bool false) (vs := []) (obs := []) hK rfl (fun _ => by kernel_rfl) trivial rfl rfl rfl ?_
                        clear hK a; intro a hK
                        refine st_skip (d := 192) hK rfl rfl rfl ?_
                        clear hK a; intro a hK
                        refine st_skip (d := 193) hK rfl rfl rfl ?_
                        clear hK a; intro a hK
                        refine st_op (d := 194) (v' := .bool false) (vs := []) (obs := []) hK rfl (fun _ => by kernel_rfl) trivial rfl rfl rfl ?_
                        clear hK a; intro a hK
                        refine st_op (d := 39) (v' := .bool false) (vs := []) (obs := []) hK rfl (fun _ => by kernel_rfl) trivial rfl rfl rfl ?_
                        clear hK a; intro a hK
                        refine wpList_nil ?_
                        replace hK := hK.weak (K' := [(2, .int .i64 ts), (8, .pointer (some ⟨g1, 0, none⟩)), (16, .bool false), (17, .bool true), (20, .pointer (some ⟨g26, 0, none⟩)), (24, .pointer (some ⟨g37, 0, none⟩)), (25, .bool (readLL L.d key ts (aroundS at_ l0 r0).1.1 (aroundS at_ l0 r0).1.2).2.1), (29, .int .i64 (stampS L.d t.t (aroundS (IntKind.i64.wrap (at_ + la)) l1 r1).1.1 (aroundS (IntKind.i64.wrap (at_ + la)) l1 r1).1.2).2.2), (33, .pointer (some ⟨g60, 0, none⟩)), (34, .bool (readLL M51.d key ts (aroundS (IntKind.i64.wrap ((IntKind.i64.wrap (at_ + la)) + lb)) l2 r2).1.1 (aroundS (IntKind.i64.wrap ((IntKind.i64.wrap (at_ + la)) + lb)) l2 r2).1.2).2.1), (35, .int .i64 (readLL M51.d key ts (aroundS (IntKind.i64.wrap ((IntKind.i64.wrap (at_ + la)) + lb)) l2 r2).1.1 (aroundS (IntKind.i64.wrap ((IntKind.i64.wrap (at_ + la)) + lb)) l2 r2).1.2).2.2), (36, .pointer (some ⟨g64, 0, none⟩)), (37, .bool (readLL M41.d key ts (aroundS (IntKind.i64.wrap (at_ + la)) l1 r1).1.1 (aroundS (IntKind.i64.wrap (at_ + la)) l1 r1).1.2).2.1), (38, .int .i64 (readLL M41.d key ts (aroundS (IntKind.i64.wrap (at_ + la)) l1 r1).1.1 (aroundS (IntKind.i64.wrap (at_ + la)) l1 r1).1.2).2.2), (39, .bool false)]) ⟨rfl, rfl, rfl, rfl, rfl, rfl, rfl, rfl, rfl, rfl, rfl, rfl, rfl, rfl, rfl, trivial⟩
                        refine xt_norm ?_
                        refine wp_seq ?_
                        refine wp_region_lit ?_
                        refine st_op (d := 195) (v' := .int .i64 ts) (vs := []) (obs := []) hK rfl (fun _ => by kernel_rfl) trivial rfl rfl rfl ?_
                        clear hK a; intro a hK
                        refine st_op (d := 196) (v' := .pointer (some ⟨g1, 0, none⟩)) (vs := []) (obs := []) hK rfl (fun _ => by kernel_rfl) trivial rfl rfl rfl ?_
                        clear hK a; intro a hK
                        refine st_op (d := 197) (v' := .int .i64 L.last) (vs := [.int .i64 L.last]) (obs := [(⟨g1, 0, none⟩, .int .i64 L.last)]) hK rfl (fun _ => by kernel_rfl) ⟨((hE.blk 18 rfl).cell 0).trans rfl, trivial⟩ rfl rfl rfl ?_
                        clear hK a; intro a hK
                        refine st_op (d := 198) (v' := .bool (decide (ts > L.last))) (vs := []) (obs := []) hK rfl (fun _ => by kernel_rfl) trivial rfl rfl rfl ?_
                        clear hK a; intro a hK
                        refine st_op (d := 199) (v' := .bool (decide (ts > L.last))) (vs := []) (obs := []) hK rfl (fun _ => by kernel_rfl) trivial rfl rfl rfl ?_
                        clear hK a; intro a hK
                        replace hK := hK.sub (d := 199) (v' := .bool false) rfl (congrArg Value.bool hc68)
                        refine st_skip (d := 200) hK rfl rfl rfl ?_
                        clear hK a; intro a hK
                        refine st_skip (d := 201) hK rfl rfl rfl ?_
                        clear hK a; intro a hK
                        refine st_skip (d := 202) hK rfl rfl rfl ?_
                        clear hK a; intro a hK
                        refine st_skip (d := 203) hK rfl rfl rfl ?_
                        clear hK a; intro a hK
                        refine st_op (d := 204) (v' := .bool false) (vs := []) (obs := []) hK rfl (fun _ => by kernel_rfl) trivial rfl rfl rfl ?_
                        clear hK a; intro a hK
                        refine st_op (d := 205) (v' := .bool false) (vs := []) (obs := []) hK rfl (fun _ => by kernel_rfl) trivial rfl rfl rfl ?_
                        clear hK a; intro a hK
                        refine st_skip (d := 206) hK rfl rfl rfl ?_
                        clear hK a; intro a hK
                        refine st_skip (d := 207) hK rfl rfl rfl ?_
                        clear hK a; intro a hK
                        refine st_op (d := 208) (v' := .bool false) (vs := []) (obs := []) hK rfl (fun _ => by kernel_rfl) trivial rfl rfl rfl ?_
                        clear hK a; intro a hK
                        refine st_op (d := 40) (v' := .bool false) (vs := []) (obs := []) hK rfl (fun _ => by kernel_rfl) trivial rfl rfl rfl ?_
                        clear hK a; intro a hK
                        refine wpList_nil ?_
                        refine xt_norm ?_
                        refine wp_seq ?_
                        refine wp_region_lit ?_
                        refine st_op (d := 209) (v' := .bool true) (vs := []) (obs := []) hK rfl (fun _ => by kernel_rfl) trivial rfl rfl rfl ?_
                        clear hK a; intro a hK
                        refine st_op (d := 210) (v' := .bool true) (vs := []) (obs := []) hK rfl (fun _ => by kernel_rfl) trivial rfl rfl rfl ?_
                        clear hK a; intro a hK
                        refine st_op (d := 211) (v' := .int .i64 (readLL M51.d key ts (aroundS (IntKind.i64.wrap ((IntKind.i64.wrap (at_ + la)) + lb)) l2 r2).1.1 (aroundS (IntKind.i64.wrap ((IntKind.i64.wrap (at_ + la)) + lb)) l2 r2).1.2).2.2) (vs := []) (obs := []) hK rfl (fun _ => by kernel_rfl) trivial rfl rfl rfl ?_
                        clear hK a; intro a hK
                        refine st_op (d := 212) (v' := .bool ((readLL M51.d key ts (aroundS (IntKind.i64.wrap ((IntKind.i64.wrap (at_ + la)) + lb)) l2 r2).1.1 (aroundS (IntKind.i64.wrap ((IntKind.i64.wrap (at_ + la)) + lb)) l2 r2).1.2).2.2 == 0)) (vs := []) (obs := []) hK rfl (fun _ => by kernel_rfl) trivial rfl rfl rfl ?_
                        clear hK a; intro a hK
                        refine st_op (d := 213) (v' := .bool ((readLL M51.d key ts (aroundS (IntKind.i64.wrap ((IntKind.i64.wrap (at_ + la)) + lb)) l2 r2).1.1 (aroundS (IntKind.i64.wrap ((IntKind.i64.wrap (at_ + la)) + lb)) l2 r2).1.2).2.2 == 0)) (vs := []) (obs := []) hK rfl (fun _ => by kernel_rfl) trivial rfl rfl rfl ?_
                        clear hK a; intro a hK
                        have hd96 : (((readLL M51.d key ts (aroundS (IntKind.i64.wrap ((IntKind.i64.wrap (at_ + la)) + lb)) l2 r2).1.1 (aroundS (IntKind.i64.wrap ((IntKind.i64.wrap (at_ + la)) + lb)) l2 r2).1.2).2.2 == 0)) = true := by rw [hN1]; exact hc40
                        replace hK := hK.sub (d := 213) (v' := .bool true) rfl (congrArg Value.bool hd96)
                        refine st_op (d := 214) (v' := .agg #[.int .i64 (readLL L.d key ts (aroundS at_ l0 r0).1.1 (aroundS at_ l0 r0).1.2).1.key, .int .i64 (readLL L.d key ts (aroundS at_ l0 r0).1.1 (aroundS at_ l0 r0).1.2).1.ts, .int .i64 (readLL L.d key ts (aroundS at_ l0 r0).1.1 (aroundS at_ l0 r0).1.2).1.value, .bool (readLL L.d key ts (aroundS at_ l0 r0).1.1 (aroundS at_ l0 r0).1.2).1.gone]) (vs := [.int .i64 (readLL L.d key ts (aroundS at_ l0 r0).1.1 (aroundS at_ l0 r0).1.2).1.key, .int .i64 (readLL L.d key ts (aroundS at_ l0 r0).1.1 (aroundS at_ l0 r0).1.2).1.ts, .int .i64 (readLL L.d key ts (aroundS at_ l0 r0).1.1 (aroundS at_ l0 r0).1.2).1.value, .bool (readLL L.d key ts (aroundS at_ l0 r0).1.1 (aroundS at_ l0 r0).1.2).1.gone]) (obs := [(⟨g37, 0, none⟩, .int .i64 (readLL L.d key ts (aroundS at_ l0 r0).1.1 (aroundS at_ l0 r0).1.2).1.key), (⟨g37, 1, none⟩, .int .i64 (readLL L.d key ts (aroundS at_ l0 r0).1.1 (aroundS at_ l0 r0).1.2).1.ts), (⟨g37, 2, none⟩, .int .i64 (readLL L.d key ts (aroundS at_ l0 r0).1.1 (aroundS at_ l0 r0).1.2).1.value), (⟨g37, 3, none⟩, .bool (readLL L.d key ts (aroundS at_ l0 r0).1.1 (aroundS at_ l0 r0).1.2).1.gone)]) hK rfl (fun _ => by kernel_rfl) ⟨((hE.blk 9 rfl).cell 0).trans rfl, ((hE.blk 9 rfl).cell 1).trans rfl, ((hE.blk 9 rfl).cell 2).trans rfl, ((hE.blk 9 rfl).cell 3).trans rfl, trivial⟩ rfl rfl rfl ?_
                        clear hK a; intro a hK
                        refine st_op (d := 215) (v' := .agg #[.int .i64 (readLL M51.d key ts (aroundS (IntKind.i64.wrap ((IntKind.i64.wrap (at_ + la)) + lb)) l2 r2).1.1 (aroundS (IntKind.i64.wrap ((IntKind.i64.wrap (at_ + la)) + lb)) l2 r2).1.2).1.key, .int .i64 (readLL M51.d key ts (aroundS (IntKind.i64.wrap ((IntKind.i64.wrap (at_ + la)) + lb)) l2 r2).1.1 (aroundS (IntKind.i64.wrap ((IntKind.i64.wrap (at_ + la)) + lb)) l2 r2).1.2).1.ts, .int .i64 (readLL M51.d key ts (aroundS (IntKind.i64.wrap ((IntKind.i64.wrap (at_ + la)) + lb)) l2 r2).1.1 (aroundS (IntKind.i64.wrap ((IntKind.i64.wrap (at_ + la)) + lb)) l2 r2).1.2).1.value, .bool (readLL M51.d key ts (aroundS (IntKind.i64.wrap ((IntKind.i64.wrap (at_ + la)) + lb)) l2 r2).1.1 (aroundS (IntKind.i64.wrap ((IntKind.i64.wrap (at_ + la)) + lb)) l2 r2).1.2).1.gone]) (vs := [.int .i64 (readLL M51.d key ts (aroundS (IntKind.i64.wrap ((IntKind.i64.wrap (at_ + la)) + lb)) l2 r2).1.1 (aroundS (IntKind.i64.wrap ((IntKind.i64.wrap (at_ + la)) + lb)) l2 r2).1.2).1.key, .int .i64 (readLL M51.d key ts (aroundS (IntKind.i64.wrap ((IntKind.i64.wrap (at_ + la)) + lb)) l2 r2).1.1 (aroundS (IntKind.i64.wrap ((IntKind.i64.wrap (at_ + la)) + lb)) l2 r2).1.2).1.ts, .int .i64 (readLL M51.d key ts (aroundS (IntKind.i64.wrap ((IntKind.i64.wrap (at_ + la)) + lb)) l2 r2).1.1 (aroundS (IntKind.i64.wrap ((IntKind.i64.wrap (at_ + la)) + lb)) l2 r2).1.2).1.value, .bool (readLL M51.d key ts (aroundS (IntKind.i64.wrap ((IntKind.i64.wrap (at_ + la)) + lb)) l2 r2).1.1 (aroundS (IntKind.i64.wrap ((IntKind.i64.wrap (at_ + la)) + lb)) l2 r2).1.2).1.gone]) (obs := [(⟨g60, 0, none⟩, .int .i64 (readLL M51.d key ts (aroundS (IntKind.i64.wrap ((IntKind.i64.wrap (at_ + la)) + lb)) l2 r2).1.1 (aroundS (IntKind.i64.wrap ((IntKind.i64.wrap (at_ + la)) + lb)) l2 r2).1.2).1.key), (⟨g60, 1, none⟩, .int .i64 (readLL M51.d key ts (aroundS (IntKind.i64.wrap ((IntKind.i64.wrap (at_ + la)) + lb)) l2 r2).1.1 (aroundS (IntKind.i64.wrap ((IntKind.i64.wrap (at_ + la)) + lb)) l2 r2).1.2).1.ts), (⟨g60, 2, none⟩, .int .i64 (readLL M51.d key ts (aroundS (IntKind.i64.wrap ((IntKind.i64.wrap (at_ + la)) + lb)) l2 r2).1.1 (aroundS (IntKind.i64.wrap ((IntKind.i64.wrap (at_ + la)) + lb)) l2 r2).1.2).1.value), (⟨g60, 3, none⟩, .bool (readLL M51.d key ts (aroundS (IntKind.i64.wrap ((IntKind.i64.wrap (at_ + la)) + lb)) l2 r2).1.1 (aroundS (IntKind.i64.wrap ((IntKind.i64.wrap (at_ + la)) + lb)) l2 r2).1.2).1.gone)]) hK rfl (fun _ => by kernel_rfl) ⟨((hE.blk 1 rfl).cell 0).trans rfl, ((hE.blk 1 rfl).cell 1).trans rfl, ((hE.blk 1 rfl).cell 2).trans rfl, ((hE.blk 1 rfl).cell 3).trans rfl, trivial⟩ rfl rfl rfl ?_
                        clear hK a; intro a hK
                        refine st_run (d := 216) (v' := .bool (eqB (readLL L.d key ts (aroundS at_ l0 r0).1.1 (aroundS at_ l0 r0).1.2).1.key (readLL L.d key ts (aroundS at_ l0 r0).1.1 (aroundS at_ l0 r0).1.2).1.ts (readLL L.d key ts (aroundS at_ l0 r0).1.1 (aroundS at_ l0 r0).1.2).1.value (readLL L.d key ts (aroundS at_ l0 r0).1.1 (aroundS at_ l0 r0).1.2).1.gone (readLL M51.d key ts (aroundS (IntKind.i64.wrap ((IntKind.i64.wrap (at_ + la)) + lb)) l2 r2).1.1 (aroundS (IntKind.i64.wrap ((IntKind.i64.wrap (at_ + la)) + lb)) l2 r2).1.2).1.key (readLL M51.d key ts (aroundS (IntKind.i64.wrap ((IntKind.i64.wrap (at_ + la)) + lb)) l2 r2).1.1 (aroundS (IntKind.i64.wrap ((IntKind.i64.wrap (at_ + la)) + lb)) l2 r2).1.2).1.ts (readLL M51.d key ts (aroundS (IntKind.i64.wrap ((IntKind.i64.wrap (at_ + la)) + lb)) l2 r2).1.1 (aroundS (IntKind.i64.wrap ((IntKind.i64.wrap (at_ + la)) + lb)) l2 r2).1.2).1.value (readLL M51.d key ts (aroundS (IntKind.i64.wrap ((IntKind.i64.wrap (at_ + la)) + lb)) l2 r2).1.1 (aroundS (IntKind.i64.wrap ((IntKind.i64.wrap (at_ + la)) + lb)) l2 r2).1.2).1.gone)) hK rfl (ex_eq rfl (fun _ => rfl) (fun _ => rfl) (by kernel_rfl) (fun W => eqlV (readLL L.d key ts (aroundS at_ l0 r0).1.1 (aroundS at_ l0 r0).1.2).1.key (readLL L.d key ts (aroundS at_ l0 r0).1.1 (aroundS at_ l0 r0).1.2).1.ts (readLL L.d key ts (aroundS at_ l0 r0).1.1 (aroundS at_ l0 r0).1.2).1.value (readLL M51.d key ts (aroundS (IntKind.i64.wrap ((IntKind.i64.wrap (at_ + la)) + lb)) l2 r2).1.1 (aroundS (IntKind.i64.wrap ((IntKind.i64.wrap (at_ + la)) + lb)) l2 r2).1.2).1.key (readLL M51.d key ts (aroundS (IntKind.i64.wrap ((IntKind.i64.wrap (at_ + la)) + lb)) l2 r2).1.1 (aroundS (IntKind.i64.wrap ((IntKind.i64.wrap (at_ + la)) + lb)) l2 r2).1.2).1.ts (readLL M51.d key ts (aroundS (IntKind.i64.wrap ((IntKind.i64.wrap (at_ + la)) + lb)) l2 r2).1.1 (aroundS (IntKind.i64.wrap ((IntKind.i64.wrap (at_ + la)) + lb)) l2 r2).1.2).1.value (readLL L.d key ts (aroundS at_ l0 r0).1.1 (aroundS at_ l0 r0).1.2).1.gone (readLL M51.d key ts (aroundS (IntKind.i64.wrap ((IntKind.i64.wrap (at_ + la)) + lb)) l2 r2).1.1 (aroundS (IntKind.i64.wrap ((IntKind.i64.wrap (at_ + la)) + lb)) l2 r2).1.2).1.gone W)) rfl rfl rfl ?_
                        clear hK a; intro a hK
                        refine st_op (d := 217) (v' := .bool (eqB (readLL L.d key ts (aroundS at_ l0 r0).1.1 (aroundS at_ l0 r0).1.2).1.key (readLL L.d key ts (aroundS at_ l0 r0).1.1 (aroundS at_ l0 r0).1.2).1.ts (readLL L.d key ts (aroundS at_ l0 r0).1.1 (aroundS at_ l0 r0).1.2).1.value (readLL L.d key ts (aroundS at_ l0 r0).1.1 (aroundS at_ l0 r0).1.2).1.gone (readLL M51.d key ts (aroundS (IntKind.i64.wrap ((IntKind.i64.wrap (at_ + la)) + lb)) l2 r2).1.1 (aroundS (IntKind.i64.wrap ((IntKind.i64.wrap (at_ + la)) + lb)) l2 r2).1.2).1.key (readLL M51.d key ts (aroundS (IntKind.i64.wrap ((IntKind.i64.wrap (at_ + la)) + lb)) l2 r2).1.1 (aroundS (IntKind.i64.wrap ((IntKind.i64.wrap (at_ + la)) + lb)) l2 r2).1.2).1.ts (readLL M51.d key ts (aroundS (IntKind.i64.wrap ((IntKind.i64.wrap (at_ + la)) + lb)) l2 r2).1.1 (aroundS (IntKind.i64.wrap ((IntKind.i64.wrap (at_ + la)) + lb)) l2 r2).1.2).1.value (readLL M51.d key ts (aroundS (IntKind.i64.wrap ((IntKind.i64.wrap (at_ + la)) + lb)) l2 r2).1.1 (aroundS (IntKind.i64.wrap ((IntKind.i64.wrap (at_ + la)) + lb)) l2 r2).1.2).1.gone)) (vs := []) (obs := []) hK rfl (fun _ => by kernel_rfl) trivial rfl rfl rfl ?_
                        clear hK a; intro a hK
                        refine st_op (d := 218) (v' := .bool (eqB (readLL L.d key ts (aroundS at_ l0 r0).1.1 (aroundS at_ l0 r0).1.2).1.key (readLL L.d key ts (aroundS at_ l0 r0).1.1 (aroundS at_ l0 r0).1.2).1.ts (readLL L.d key ts (aroundS at_ l0 r0).1.1 (aroundS at_ l0 r0).1.2).1.value (readLL L.d key ts (aroundS at_ l0 r0).1.1 (aroundS at_ l0 r0).1.2).1.gone (readLL M51.d key ts (aroundS (IntKind.i64.wrap ((IntKind.i64.wrap (at_ + la)) + lb)) l2 r2).1.1 (aroundS (IntKind.i64.wrap ((IntKind.i64.wrap (at_ + la)) + lb)) l2 r2).1.2).1.key (readLL M51.d key ts (aroundS (IntKind.i64.wrap ((IntKind.i64.wrap (at_ + la)) + lb)) l2 r2).1.1 (aroundS (IntKind.i64.wrap ((IntKind.i64.wrap (at_ + la)) + lb)) l2 r2).1.2).1.ts (readLL M51.d key ts (aroundS (IntKind.i64.wrap ((IntKind.i64.wrap (at_ + la)) + lb)) l2 r2).1.1 (aroundS (IntKind.i64.wrap ((IntKind.i64.wrap (at_ + la)) + lb)) l2 r2).1.2).1.value (readLL M51.d key ts (aroundS (IntKind.i64.wrap ((IntKind.i64.wrap (at_ + la)) + lb)) l2 r2).1.1 (aroundS (IntKind.i64.wrap ((IntKind.i64.wrap (at_ + la)) + lb)) l2 r2).1.2).1.gone)) (vs := []) (obs := []) hK rfl (fun _ => by kernel_rfl) trivial rfl rfl rfl ?_
                        clear hK a; intro a hK
                        have hd97 : (eqB (readLL L.d key ts (aroundS at_ l0 r0).1.1 (aroundS at_ l0 r0).1.2).1.key (readLL L.d key ts (aroundS at_ l0 r0).1.1 (aroundS at_ l0 r0).1.2).1.ts (readLL L.d key ts (aroundS at_ l0 r0).1.1 (aroundS at_ l0 r0).1.2).1.value (readLL L.d key ts (aroundS at_ l0 r0).1.1 (aroundS at_ l0 r0).1.2).1.gone (readLL M51.d key ts (aroundS (IntKind.i64.wrap ((IntKind.i64.wrap (at_ + la)) + lb)) l2 r2).1.1 (aroundS (IntKind.i64.wrap ((IntKind.i64.wrap (at_ + la)) + lb)) l2 r2).1.2).1.key (readLL M51.d key ts (aroundS (IntKind.i64.wrap ((IntKind.i64.wrap (at_ + la)) + lb)) l2 r2).1.1 (aroundS (IntKind.i64.wrap ((IntKind.i64.wrap (at_ + la)) + lb)) l2 r2).1.2).1.ts (readLL M51.d key ts (aroundS (IntKind.i64.wrap ((IntKind.i64.wrap (at_ + la)) + lb)) l2 r2).1.1 (aroundS (IntKind.i64.wrap ((IntKind.i64.wrap (at_ + la)) + lb)) l2 r2).1.2).1.value (readLL M51.d key ts (aroundS (IntKind.i64.wrap ((IntKind.i64.wrap (at_ + la)) + lb)) l2 r2).1.1 (aroundS (IntKind.i64.wrap ((IntKind.i64.wrap (at_ + la)) + lb)) l2 r2).1.2).1.gone) = true := by rw [hN1]; exact decide_eq_true rfl
                        replace hK := hK.sub (d := 218) (v' := .bool true) rfl (congrArg Value.bool hd97)
                        refine st_op (d := 219) (v' := .bool (readLL L.d key ts (aroundS at_ l0 r0).1.1 (aroundS at_ l0 r0).1.2).2.1) (vs := []) (obs := []) hK rfl (fun _ => by kernel_rfl) trivial rfl rfl rfl ?_
                        clear hK a; intro a hK
                        refine st_op (d := 220) (v' := .bool (readLL M51.d key ts (aroundS (IntKind.i64.wrap ((IntKind.i64.wrap (at_ + la)) + lb)) l2 r2).1.1 (aroundS (IntKind.i64.wrap ((IntKind.i64.wrap (at_ + la)) + lb)) l2 r2).1.2).2.1) (vs := []) (obs := []) hK rfl (fun _ => by kernel_rfl) trivial rfl rfl rfl ?_
                        clear hK a; intro a hK
                        refine st_op (d := 221) (v' := .bool ((readLL L.d key ts (aroundS at_ l0 r0).1.1 (aroundS at_ l0 r0).1.2).2.1 == (readLL M51.d key ts (aroundS (IntKind.i64.wrap ((IntKind.i64.wrap (at_ + la)) + lb)) l2 r2).1.1 (aroundS (IntKind.i64.wrap ((IntKind.i64.wrap (at_ + la)) + lb)) l2 r2).1.2).2.1)) (vs := []) (obs := []) hK rfl (fun _ => by kernel_rfl) trivial rfl rfl rfl ?_
                        clear hK a; intro a hK
                        refine st_op (d := 222) (v' := .bool ((readLL L.d key ts (aroundS at_ l0 r0).1.1 (aroundS at_ l0 r0).1.2).2.1 == (readLL M51.d key ts (aroundS (IntKind.i64.wrap ((IntKind.i64.wrap (at_ + la)) + lb)) l2 r2).1.1 (aroundS (IntKind.i64.wrap ((IntKind.i64.wrap (at_ + la)) + lb)) l2 r2).1.2).2.1)) (vs := []) (obs := []) hK rfl (fun _ => by kernel_rfl) trivial rfl rfl rfl ?_
                        clear hK a; intro a hK
                        refine st_op (d := 223) (v' := .bool ((readLL L.d key ts (aroundS at_ l0 r0).1.1 (aroundS at_ l0 r0).1.2).2.1 == (readLL M51.d key ts (aroundS (IntKind.i64.wrap ((IntKind.i64.wrap (at_ + la)) + lb)) l2 r2).1.1 (aroundS (IntKind.i64.wrap ((IntKind.i64.wrap (at_ + la)) + lb)) l2 r2).1.2).2.1)) (vs := []) (obs := []) hK rfl (fun _ => by kernel_rfl) trivial rfl rfl rfl ?_
                        clear hK a; intro a hK
                        have hd98 : (((readLL L.d key ts (aroundS at_ l0 r0).1.1 (aroundS at_ l0 r0).1.2).2.1 == (readLL M51.d key ts (aroundS (IntKind.i64.wrap ((IntKind.i64.wrap (at_ + la)) + lb)) l2 r2).1.1 (aroundS (IntKind.i64.wrap ((IntKind.i64.wrap (at_ + la)) + lb)) l2 r2).1.2).2.1)) = true := by rw [hN1]; exact beq_self_eq_true _
                        replace hK := hK.sub (d := 223) (v' := .bool true) rfl (congrArg Value.bool hd98)
                        refine st_skip (d := 224) hK rfl rfl rfl ?_
                        clear hK a; intro a hK
                        refine st_skip (d := 225) hK rfl rfl rfl ?_
                        clear hK a; intro a hK
                        refine st_skip (d := 226) hK rfl rfl rfl ?_
                        clear hK a; intro a hK
                        refine st_skip (d := 227) hK rfl rfl rfl ?_
                        clear hK a; intro a hK
                        refine st_skip (d := 228) hK rfl rfl rfl ?_
                        clear hK a; intro a hK
                        refine st_op (d := 229) (v' := .bool true) (vs := []) (obs := []) hK rfl (fun _ => by kernel_rfl) trivial rfl rfl rfl ?_
                        clear hK a; intro a hK
                        refine st_op (d := 230) (v' := .bool true) (vs := []) (obs := []) hK rfl (fun _ => by kernel_rfl) trivial rfl rfl rfl ?_
                        clear hK a; intro a hK
                        refine st_op (d := 231) (v' := .bool true) (vs := []) (obs := []) hK rfl (fun _ => by kernel_rfl) trivial rfl rfl rfl ?_
                        clear hK a; intro a hK
                        refine st_op (d := 232) (v' := .int .i64 (readLL M41.d key ts (aroundS (IntKind.i64.wrap (at_ + la)) l1 r1).1.1 (aroundS (IntKind.i64.wrap (at_ + la)) l1 r1).1.2).2.2) (vs := []) (obs := []) hK rfl (fun _ => by kernel_rfl) trivial rfl rfl rfl ?_
                        clear hK a; intro a hK
                        refine st_op (d := 233) (v' := .bool ((readLL M41.d key ts (aroundS (IntKind.i64.wrap (at_ + la)) l1 r1).1.1 (aroundS (IntKind.i64.wrap (at_ + la)) l1 r1).1.2).2.2 == 0)) (vs := []) (obs := []) hK rfl (fun _ => by kernel_rfl) trivial rfl rfl rfl ?_
                        clear hK a; intro a hK
                        refine st_op (d := 234) (v' := .bool ((readLL M41.d key ts (aroundS (IntKind.i64.wrap (at_ + la)) l1 r1).1.1 (aroundS (IntKind.i64.wrap (at_ + la)) l1 r1).1.2).2.2 == 0)) (vs := []) (obs := []) hK rfl (fun _ => by kernel_rfl) trivial rfl rfl rfl ?_
                        clear hK a; intro a hK
                        have hd99 : (((readLL M41.d key ts (aroundS (IntKind.i64.wrap (at_ + la)) l1 r1).1.1 (aroundS (IntKind.i64.wrap (at_ + la)) l1 r1).1.2).2.2 == 0)) = true := by rw [hN2]; exact hc40
                        replace hK := hK.sub (d := 234) (v' := .bool true) rfl (congrArg Value.bool hd99)
                        refine st_op (d := 235) (v' := .agg #[.int .i64 (readLL L.d key ts (aroundS at_ l0 r0).1.1 (aroundS at_ l0 r0).1.2).1.key, .int .i64 (readLL L.d key ts (aroundS at_ l0 r0).1.1 (aroundS at_ l0 r0).1.2).1.ts, .int .i64 (readLL L.d key ts (aroundS at_ l0 r0).1.1 (aroundS at_ l0 r0).1.2).1.value, .bool (readLL L.d key ts (aroundS at_ l0 r0).1.1 (aroundS at_ l0 r0).1.2).1.gone]) (vs := [.int .i64 (readLL L.d key ts (aroundS at_ l0 r0).1.1 (aroundS at_ l0 r0).1.2).1.key, .int .i64 (readLL L.d key ts (aroundS at_ l0 r0).1.1 (aroundS at_ l0 r0).1.2).1.ts, .int .i64 (readLL L.d key ts (aroundS at_ l0 r0).1.1 (aroundS at_ l0 r0).1.2).1.value, .bool (readLL L.d key ts (aroundS at_ l0 r0).1.1 (aroundS at_ l0 r0).1.2).1.gone]) (obs := [(⟨g37, 0, none⟩, .int .i64 (readLL L.d key ts (aroundS at_ l0 r0).1.1 (aroundS at_ l0 r0).1.2).1.key), (⟨g37, 1, none⟩, .int .i64 (readLL L.d key ts (aroundS at_ l0 r0).1.1 (aroundS at_ l0 r0).1.2).1.ts), (⟨g37, 2, none⟩, .int .i64 (readLL L.d key ts (aroundS at_ l0 r0).1.1 (aroundS at_ l0 r0).1.2).1.value), (⟨g37, 3, none⟩, .bool (readLL L.d key ts (aroundS at_ l0 r0).1.1 (aroundS at_ l0 r0).1.2).1.gone)]) hK rfl (fun _ => by kernel_rfl) ⟨((hE.blk 9 rfl).cell 0).trans rfl, ((hE.blk 9 rfl).cell 1).trans rfl, ((hE.blk 9 rfl).cell 2).trans rfl, ((hE.blk 9 rfl).cell 3).trans rfl, trivial⟩ rfl rfl rfl ?_
                        clear hK a; intro a hK
                        refine st_op (d := 236) (v' := .agg #[.int .i64 (readLL M41.d key ts (aroundS (IntKind.i64.wrap (at_ + la)) l1 r1).1.1 (aroundS (IntKind.i64.wrap (at_ + la)) l1 r1).1.2).1.key, .int .i64 (readLL M41.d key ts (aroundS (IntKind.i64.wrap (at_ + la)) l1 r1).1.1 (aroundS (IntKind.i64.wrap (at_ + la)) l1 r1).1.2).1.ts, .int .i64 (readLL M41.d key ts (aroundS (IntKind.i64.wrap (at_ + la)) l1 r1).1.1 (aroundS (IntKind.i64.wrap (at_ + la)) l1 r1).1.2).1.value, .bool (readLL M41.d key ts (aroundS (IntKind.i64.wrap (at_ + la)) l1 r1).1.1 (aroundS (IntKind.i64.wrap (at_ + la)) l1 r1).1.2).1.gone]) (vs := [.int .i64 (readLL M41.d key ts (aroundS (IntKind.i64.wrap (at_ + la)) l1 r1).1.1 (aroundS (IntKind.i64.wrap (at_ + la)) l1 r1).1.2).1.key, .int .i64 (readLL M41.d key ts (aroundS (IntKind.i64.wrap (at_ + la)) l1 r1).1.1 (aroundS (IntKind.i64.wrap (at_ + la)) l1 r1).1.2).1.ts, .int .i64 (readLL M41.d key ts (aroundS (IntKind.i64.wrap (at_ + la)) l1 r1).1.1 (aroundS (IntKind.i64.wrap (at_ + la)) l1 r1).1.2).1.value, .bool (readLL M41.d key ts (aroundS (IntKind.i64.wrap (at_ + la)) l1 r1).1.1 (aroundS (IntKind.i64.wrap (at_ + la)) l1 r1).1.2).1.gone]) (obs := [(⟨g64, 0, none⟩, .int .i64 (readLL M41.d key ts (aroundS (IntKind.i64.wrap (at_ + la)) l1 r1).1.1 (aroundS (IntKind.i64.wrap (at_ + la)) l1 r1).1.2).1.key), (⟨g64, 1, none⟩, .int .i64 (readLL M41.d key ts (aroundS (IntKind.i64.wrap (at_ + la)) l1 r1).1.1 (aroundS (IntKind.i64.wrap (at_ + la)) l1 r1).1.2).1.ts), (⟨g64, 2, none⟩, .int .i64 (readLL M41.d key ts (aroundS (IntKind.i64.wrap (at_ + la)) l1 r1).1.1 (aroundS (IntKind.i64.wrap (at_ + la)) l1 r1).1.2).1.value), (⟨g64, 3, none⟩, .bool (readLL M41.d key ts (aroundS (IntKind.i64.wrap (at_ + la)) l1 r1).1.1 (aroundS (IntKind.i64.wrap (at_ + la)) l1 r1).1.2).1.gone)]) hK rfl (fun _ => by kernel_rfl) ⟨((hE.blk 0 rfl).cell 0).trans rfl, ((hE.blk 0 rfl).cell 1).trans rfl, ((hE.blk 0 rfl).cell 2).trans rfl, ((hE.blk 0 rfl).cell 3).trans rfl, trivial⟩ rfl rfl rfl ?_
                        clear hK a; intro a hK
                        refine st_run (d := 237) (v' := .bool (eqB (readLL L.d key ts (aroundS at_ l0 r0).1.1 (aroundS at_ l0 r0).1.2).1.key (readLL L.d key ts (aroundS at_ l0 r0).1.1 (aroundS at_ l0 r0).1.2).1.ts (readLL L.d key ts (aroundS at_ l0 r0).1.1 (aroundS at_ l0 r0).1.2).1.value (readLL L.d key ts (aroundS at_ l0 r0).1.1 (aroundS at_ l0 r0).1.2).1.gone (readLL M41.d key ts (aroundS (IntKind.i64.wrap (at_ + la)) l1 r1).1.1 (aroundS (IntKind.i64.wrap (at_ + la)) l1 r1).1.2).1.key (readLL M41.d key ts (aroundS (IntKind.i64.wrap (at_ + la)) l1 r1).1.1 (aroundS (IntKind.i64.wrap (at_ + la)) l1 r1).1.2).1.ts (readLL M41.d key ts (aroundS (IntKind.i64.wrap (at_ + la)) l1 r1).1.1 (aroundS (IntKind.i64.wrap (at_ + la)) l1 r1).1.2).1.value (readLL M41.d key ts (aroundS (IntKind.i64.wrap (at_ + la)) l1 r1).1.1 (aroundS (IntKind.i64.wrap (at_ + la)) l1 r1).1.2).1.gone)) hK rfl (ex_eq rfl (fun _ => rfl) (fun _ => rfl) (by kernel_rfl) (fun W => eqlV (readLL L.d key ts (aroundS at_ l0 r0).1.1 (aroundS at_ l0 r0).1.2).1.key (readLL L.d key ts (aroundS at_ l0 r0).1.1 (aroundS at_ l0 r0).1.2).1.ts (readLL L.d key ts (aroundS at_ l0 r0).1.1 (aroundS at_ l0 r0).1.2).1.value (readLL M41.d key ts (aroundS (IntKind.i64.wrap (at_ + la)) l1 r1).1.1 (aroundS (IntKind.i64.wrap (at_ + la)) l1 r1).1.2).1.key (readLL M41.d key ts (aroundS (IntKind.i64.wrap (at_ + la)) l1 r1).1.1 (aroundS (IntKind.i64.wrap (at_ + la)) l1 r1).1.2).1.ts (readLL M41.d key ts (aroundS (IntKind.i64.wrap (at_ + la)) l1 r1).1.1 (aroundS (IntKind.i64.wrap (at_ + la)) l1 r1).1.2).1.value (readLL L.d key ts (aroundS at_ l0 r0).1.1 (aroundS at_ l0 r0).1.2).1.gone (readLL M41.d key ts (aroundS (IntKind.i64.wrap (at_ + la)) l1 r1).1.1 (aroundS (IntKind.i64.wrap (at_ + la)) l1 r1).1.2).1.gone W)) rfl rfl rfl ?_
                        clear hK a; intro a hK
                        refine st_op (d := 238) (v' := .bool (eqB (readLL L.d key ts (aroundS at_ l0 r0).1.1 (aroundS at_ l0 r0).1.2).1.key (readLL L.d key ts (aroundS at_ l0 r0).1.1 (aroundS at_ l0 r0).1.2).1.ts (readLL L.d key ts (aroundS at_ l0 r0).1.1 (aroundS at_ l0 r0).1.2).1.value (readLL L.d key ts (aroundS at_ l0 r0).1.1 (aroundS at_ l0 r0).1.2).1.gone (readLL M41.d key ts (aroundS (IntKind.i64.wrap (at_ + la)) l1 r1).1.1 (aroundS (IntKind.i64.wrap (at_ + la)) l1 r1).1.2).1.key (readLL M41.d key ts (aroundS (IntKind.i64.wrap (at_ + la)) l1 r1).1.1 (aroundS (IntKind.i64.wrap (at_ + la)) l1 r1).1.2).1.ts (readLL M41.d key ts (aroundS (IntKind.i64.wrap (at_ + la)) l1 r1).1.1 (aroundS (IntKind.i64.wrap (at_ + la)) l1 r1).1.2).1.value (readLL M41.d key ts (aroundS (IntKind.i64.wrap (at_ + la)) l1 r1).1.1 (aroundS (IntKind.i64.wrap (at_ + la)) l1 r1).1.2).1.gone)) (vs := []) (obs := []) hK rfl (fun _ => by kernel_rfl) trivial rfl rfl rfl ?_
                        clear hK a; intro a hK
                        refine st_op (d := 239) (v' := .bool (eqB (readLL L.d key ts (aroundS at_ l0 r0).1.1 (aroundS at_ l0 r0).1.2).1.key (readLL L.d key ts (aroundS at_ l0 r0).1.1 (aroundS at_ l0 r0).1.2).1.ts (readLL L.d key ts (aroundS at_ l0 r0).1.1 (aroundS at_ l0 r0).1.2).1.value (readLL L.d key ts (aroundS at_ l0 r0).1.1 (aroundS at_ l0 r0).1.2).1.gone (readLL M41.d key ts (aroundS (IntKind.i64.wrap (at_ + la)) l1 r1).1.1 (aroundS (IntKind.i64.wrap (at_ + la)) l1 r1).1.2).1.key (readLL M41.d key ts (aroundS (IntKind.i64.wrap (at_ + la)) l1 r1).1.1 (aroundS (IntKind.i64.wrap (at_ + la)) l1 r1).1.2).1.ts (readLL M41.d key ts (aroundS (IntKind.i64.wrap (at_ + la)) l1 r1).1.1 (aroundS (IntKind.i64.wrap (at_ + la)) l1 r1).1.2).1.value (readLL M41.d key ts (aroundS (IntKind.i64.wrap (at_ + la)) l1 r1).1.1 (aroundS (IntKind.i64.wrap (at_ + la)) l1 r1).1.2).1.gone)) (vs := []) (obs := []) hK rfl (fun _ => by kernel_rfl) trivial rfl rfl rfl ?_
                        clear hK a; intro a hK
                        have hd100 : (eqB (readLL L.d key ts (aroundS at_ l0 r0).1.1 (aroundS at_ l0 r0).1.2).1.key (readLL L.d key ts (aroundS at_ l0 r0).1.1 (aroundS at_ l0 r0).1.2).1.ts (readLL L.d key ts (aroundS at_ l0 r0).1.1 (aroundS at_ l0 r0).1.2).1.value (readLL L.d key ts (aroundS at_ l0 r0).1.1 (aroundS at_ l0 r0).1.2).1.gone (readLL M41.d key ts (aroundS (IntKind.i64.wrap (at_ + la)) l1 r1).1.1 (aroundS (IntKind.i64.wrap (at_ + la)) l1 r1).1.2).1.key (readLL M41.d key ts (aroundS (IntKind.i64.wrap (at_ + la)) l1 r1).1.1 (aroundS (IntKind.i64.wrap (at_ + la)) l1 r1).1.2).1.ts (readLL M41.d key ts (aroundS (IntKind.i64.wrap (at_ + la)) l1 r1).1.1 (aroundS (IntKind.i64.wrap (at_ + la)) l1 r1).1.2).1.value (readLL M41.d key ts (aroundS (IntKind.i64.wrap (at_ + la)) l1 r1).1.1 (aroundS (IntKind.i64.wrap (at_ + la)) l1 r1).1.2).1.gone) = true := by rw [hN2]; exact decide_eq_true rfl
                        replace hK := hK.sub (d := 239) (v' := .bool true) rfl (congrArg Value.bool hd100)
                        refine st_op (d := 240) (v' := .bool (readLL L.d key ts (aroundS at_ l0 r0).1.1 (aroundS at_ l0 r0).1.2).2.1) (vs := []) (obs := []) hK rfl (fun _ => by kernel_rfl) trivial rfl rfl rfl ?_
                        clear hK a; intro a hK
                        refine st_op (d := 241) (v' := .bool (readLL M41.d key ts (aroundS (IntKind.i64.wrap (at_ + la)) l1 r1).1.1 (aroundS (IntKind.i64.wrap (at_ + la)) l1 r1).1.2).2.1) (vs := []) (obs := []) hK rfl (fun _ => by kernel_rfl) trivial rfl rfl rfl ?_
                        clear hK a; intro a hK
                        refine st_op (d := 242) (v' := .bool ((readLL L.d key ts (aroundS at_ l0 r0).1.1 (aroundS at_ l0 r0).1.2).2.1 == (readLL M41.d key ts (aroundS (IntKind.i64.wrap (at_ + la)) l1 r1).1.1 (aroundS (IntKind.i64.wrap (at_ + la)) l1 r1).1.2).2.1)) (vs := []) (obs := []) hK rfl (fun _ => by kernel_rfl) trivial rfl rfl rfl ?_
                        clear hK a; intro a hK
                        refine st_op (d := 243) (v' := .bool ((readLL L.d key ts (aroundS at_ l0 r0).1.1 (aroundS at_ l0 r0).1.2).2.1 == (readLL M41.d key ts (aroundS (IntKind.i64.wrap (at_ + la)) l1 r1).1.1 (aroundS (IntKind.i64.wrap (at_ + la)) l1 r1).1.2).2.1)) (vs := []) (obs := []) hK rfl (fun _ => by kernel_rfl) trivial rfl rfl rfl ?_
                        clear hK a; intro a hK
                        refine st_op (d := 244) (v' := .bool ((readLL L.d key ts (aroundS at_ l0 r0).1.1 (aroundS at_ l0 r0).1.2).2.1 == (readLL M41.d key ts (aroundS (IntKind.i64.wrap (at_ + la)) l1 r1).1.1 (aroundS (IntKind.i64.wrap (at_ + la)) l1 r1).1.2).2.1)) (vs := []) (obs := []) hK rfl (fun _ => by kernel_rfl) trivial rfl rfl rfl ?_
                        clear hK a; intro a hK
                        have hd101 : (((readLL L.d key ts (aroundS at_ l0 r0).1.1 (aroundS at_ l0 r0).1.2).2.1 == (readLL M41.d key ts (aroundS (IntKind.i64.wrap (at_ + la)) l1 r1).1.1 (aroundS (IntKind.i64.wrap (at_ + la)) l1 r1).1.2).2.1)) = true := by rw [hN2]; exact beq_self_eq_true _
                        replace hK := hK.sub (d := 244) (v' := .bool true) rfl (congrArg Value.bool hd101)
                        refine st_skip (d := 245) hK rfl rfl rfl ?_
                        clear hK a; intro a hK
                        refine st_skip (d := 246) hK rfl rfl rfl ?_
                        clear hK a; intro a hK
                        refine st_skip (d := 247) hK rfl rfl rfl ?_
                        clear hK a; intro a hK
                        refine st_skip (d := 248) hK rfl rfl rfl ?_
                        clear hK a; intro a hK
                        refine st_skip (d := 249) hK rfl rfl rfl ?_
                        clear hK a; intro a hK
                        refine st_op (d := 250) (v' := .bool true) (vs := []) (obs := []) hK rfl (fun _ => by kernel_rfl) trivial rfl rfl rfl ?_
                        clear hK a; intro a hK
                        refine st_op (d := 251) (v' := .bool true) (vs := []) (obs := []) hK rfl (fun _ => by kernel_rfl) trivial rfl rfl rfl ?_
                        clear hK a; intro a hK
                        refine st_op (d := 16) (v' := .bool true) (vs := []) (obs := []) hK rfl (fun _ => by kernel_rfl) trivial rfl rfl rfl ?_
                        clear hK a; intro a hK
                        refine wpList_nil ?_
                        replace hK := hK.weak (K' := [(16, .bool true)]) ⟨rfl, trivial⟩
                        refine xt_norm ?_
                        refine wp_ret ?_
                        refine vc_ret (v' := .bool true) (vs := []) (obs := []) hK (fun _ => by kernel_rfl) trivial rfl ?_
                        exact ⟨rfl, hE.b⟩
                    · have hc40p := ne_of_beq_false hc40
                      have hrb := read_bad (fun e => hc40p e)
                      replace hK := hK.sub (d := 129) (v' := .bool true) rfl (congrArg (fun b => Value.bool !b) hc40)
                      refine vc_cond (t := true) hK (fun _ => rfl) ?_
                      rw [if_pos rfl]
                      refine wp_seq ?_
                      refine wp_region_lit ?_
                      refine st_op (d := 130) (v' := .bool true) (vs := []) (obs := []) hK rfl (fun _ => by kernel_rfl) trivial rfl rfl rfl ?_
                      clear hK a; intro a hK
                      refine st_op (d := 131) (v' := .bool true) (vs := []) (obs := []) hK rfl (fun _ => by kernel_rfl) trivial rfl rfl rfl ?_
                      clear hK a; intro a hK
                      refine st_op (d := 132) (v' := .int .i64 (readLL L.d key ts (aroundS at_ l0 r0).1.1 (aroundS at_ l0 r0).1.2).2.2) (vs := []) (obs := []) hK rfl (fun _ => by kernel_rfl) trivial rfl rfl rfl ?_
                      clear hK a; intro a hK
                      refine st_op (d := 133) (v' := .bool ((readLL L.d key ts (aroundS at_ l0 r0).1.1 (aroundS at_ l0 r0).1.2).2.2 == 1)) (vs := []) (obs := []) hK rfl (fun _ => by kernel_rfl) trivial rfl rfl rfl ?_
                      clear hK a; intro a hK
                      refine st_op (d := 134) (v' := .bool ((readLL L.d key ts (aroundS at_ l0 r0).1.1 (aroundS at_ l0 r0).1.2).2.2 == 1)) (vs := []) (obs := []) hK rfl (fun _ => by kernel_rfl) trivial rfl rfl rfl ?_
                      clear hK a; intro a hK
                      rcases Bool.eq_false_or_eq_true (((readLL L.d key ts (aroundS at_ l0 r0).1.1 (aroundS at_ l0 r0).1.2).2.2 == 1)) with hc102 | hc102
                      · have hc102p := eq_of_beq hc102
                        replace hK := hK.sub (d := 134) (v' := .bool true) rfl (congrArg Value.bool hc102)
                        refine st_skip (d := 135) hK rfl rfl rfl ?_
                        clear hK a; intro a hK
                        refine st_skip (d := 136) hK rfl rfl rfl ?_
                        clear hK a; intro a hK
                        refine st_op (d := 137) (v' := .bool true) (vs := []) (obs := []) hK rfl (fun _ => by kernel_rfl) trivial rfl rfl rfl ?_
                        clear hK a; intro a hK
                        refine st_op (d := 138) (v' := .bool true) (vs := []) (obs := []) hK rfl (fun _ => by kernel_rfl) trivial rfl rfl rfl ?_
                        clear hK a; intro a hK
                        refine st_op (d := 139) (v' := .bool true) (vs := []) (obs := []) hK rfl (fun _ => by kernel_rfl) trivial rfl rfl rfl ?_
                        clear hK a; intro a hK
                        refine st_op (d := 140) (v' := .bool (readLL L.d key ts (aroundS at_ l0 r0).1.1 (aroundS at_ l0 r0).1.2).2.1) (vs := []) (obs := []) hK rfl (fun _ => by kernel_rfl) trivial rfl rfl rfl ?_
                        clear hK a; intro a hK
                        refine st_op (d := 141) (v' := .bool (!(readLL L.d key ts (aroundS at_ l0 r0).1.1 (aroundS at_ l0 r0).1.2).2.1)) (vs := []) (obs := []) hK rfl (fun _ => by kernel_rfl) trivial rfl rfl rfl ?_
                        clear hK a; intro a hK
                        refine st_op (d := 142) (v' := .bool (!(readLL L.d key ts (aroundS at_ l0 r0).1.1 (aroundS at_ l0 r0).1.2).2.1)) (vs := []) (obs := []) hK rfl (fun _ => by kernel_rfl) trivial rfl rfl rfl ?_
                        clear hK a; intro a hK
                        refine st_op (d := 16) (v' := .bool (!(readLL L.d key ts (aroundS at_ l0 r0).1.1 (aroundS at_ l0 r0).1.2).2.1)) (vs := []) (obs := []) hK rfl (fun _ => by kernel_rfl) trivial rfl rfl rfl ?_
                        clear hK a; intro a hK
                        refine wpList_nil ?_
                        refine xt_norm ?_
                        refine wp_ret ?_
                        refine xt_ret ?_
                        have hd103 : ((readLL L.d key ts (aroundS at_ l0 r0).1.1 (aroundS at_ l0 r0).1.2).2.1) = false := hrb.2.1
                        replace hK := hK.sub (d := 16) (v' := .bool true) rfl (congrArg (fun b => Value.bool !b) hd103)
                        refine vc_ret (v' := .bool true) (vs := []) (obs := []) hK (fun _ => by kernel_rfl) trivial rfl ?_
                        exact ⟨rfl, hE.b⟩
                      · have hc102p := ne_of_beq_false hc102
                        replace hK := hK.sub (d := 134) (v' := .bool false) rfl (congrArg Value.bool hc102)
                        refine st_op (d := 135) (v' := .int .i64 (readLL L.d key ts (aroundS at_ l0 r0).1.1 (aroundS at_ l0 r0).1.2).2.2) (vs := []) (obs := []) hK rfl (fun _ => by kernel_rfl) trivial rfl rfl rfl ?_
                        clear hK a; intro a hK
                        refine st_op (d := 136) (v' := .bool ((readLL L.d key ts (aroundS at_ l0 r0).1.1 (aroundS at_ l0 r0).1.2).2.2 == 61)) (vs := []) (obs := []) hK rfl (fun _ => by kernel_rfl) trivial rfl rfl rfl ?_
                        clear hK a; intro a hK
                        refine st_op (d := 137) (v' := .bool ((readLL L.d key ts (aroundS at_ l0 r0).1.1 (aroundS at_ l0 r0).1.2).2.2 == 61)) (vs := []) (obs := []) hK rfl (fun _ => by kernel_rfl) trivial rfl rfl rfl ?_
                        clear hK a; intro a hK
                        refine st_op (d := 138) (v' := .bool ((readLL L.d key ts (aroundS at_ l0 r0).1.1 (aroundS at_ l0 r0).1.2).2.2 == 61)) (vs := []) (obs := []) hK rfl (fun _ => by kernel_rfl) trivial rfl rfl rfl ?_
                        clear hK a; intro a hK
                        refine st_op (d := 139) (v' := .bool ((readLL L.d key ts (aroundS at_ l0 r0).1.1 (aroundS at_ l0 r0).1.2).2.2 == 61)) (vs := []) (obs := []) hK rfl (fun _ => by kernel_rfl) trivial rfl rfl rfl ?_
                        clear hK a; intro a hK
                        have hd104 : (((readLL L.d key ts (aroundS at_ l0 r0).1.1 (aroundS at_ l0 r0).1.2).2.2 == 61)) = true := by rcases hrb.1 with e | e; exact absurd e hc102p; rw [e]; rfl
                        replace hK := hK.sub (d := 139) (v' := .bool true) rfl (congrArg Value.bool hd104)
                        refine st_op (d := 140) (v' := .bool (readLL L.d key ts (aroundS at_ l0 r0).1.1 (aroundS at_ l0 r0).1.2).2.1) (vs := []) (obs := []) hK rfl (fun _ => by kernel_rfl) trivial rfl rfl rfl ?_
                        clear hK a; intro a hK
                        refine st_op (d := 141) (v' := .bool (!(readLL L.d key ts (aroundS at_ l0 r0).1.1 (aroundS at_ l0 r0).1.2).2.1)) (vs := []) (obs := []) hK rfl (fun _ => by kernel_rfl) trivial rfl rfl rfl ?_
                        clear hK a; intro a hK
                        refine st_op (d := 142) (v' := .bool (!(readLL L.d key ts (aroundS at_ l0 r0).1.1 (aroundS at_ l0 r0).1.2).2.1)) (vs := []) (obs := []) hK rfl (fun _ => by kernel_rfl) trivial rfl rfl rfl ?_
                        clear hK a; intro a hK
                        refine st_op (d := 16) (v' := .bool (!(readLL L.d key ts (aroundS at_ l0 r0).1.1 (aroundS at_ l0 r0).1.2).2.1)) (vs := []) (obs := []) hK rfl (fun _ => by kernel_rfl) trivial rfl rfl rfl ?_
                        clear hK a; intro a hK
                        refine wpList_nil ?_
                        refine xt_norm ?_
                        refine wp_ret ?_
                        refine xt_ret ?_
                        have hd105 : ((readLL L.d key ts (aroundS at_ l0 r0).1.1 (aroundS at_ l0 r0).1.2).2.1) = false := hrb.2.1
                        replace hK := hK.sub (d := 16) (v' := .bool true) rfl (congrArg (fun b => Value.bool !b) hd105)
                        refine vc_ret (v' := .bool true) (vs := []) (obs := []) hK (fun _ => by kernel_rfl) trivial rfl ?_
                        exact ⟨rfl, hE.b⟩
                  · replace hK := hK.sub (d := 117) (v' := .bool true) rfl (congrArg (fun b => Value.bool !b) hc35)
                    refine vc_cond (t := true) hK (fun _ => rfl) ?_
                    rw [if_pos rfl]
                    refine wp_seq ?_
                    refine wp_region_lit ?_
                    refine st_op (d := 118) (v' := .bool true) (vs := []) (obs := []) hK rfl (fun _ => by kernel_rfl) trivial rfl rfl rfl ?_
                    clear hK a; intro a hK
                    refine st_op (d := 16) (v' := .bool true) (vs := []) (obs := []) hK rfl (fun _ => by kernel_rfl) trivial rfl rfl rfl ?_
                    clear hK a; intro a hK
                    refine wpList_nil ?_
                    refine xt_norm ?_
                    refine wp_ret ?_
                    refine xt_ret ?_
                    refine vc_ret (v' := .bool true) (vs := []) (obs := []) hK (fun _ => by kernel_rfl) trivial rfl ?_
                    exact ⟨rfl, hE.b⟩
                · replace hK := hK.sub (d := 114) (v' := .bool true) rfl (congrArg (fun b => Value.bool !b) hc34)
                  refine st_skip (d := 115) hK rfl rfl rfl ?_
                  clear hK a; intro a hK
                  refine st_skip (d := 116) hK rfl rfl rfl ?_
                  clear hK a; intro a hK
                  refine st_op (d := 117) (v' := .bool true) (vs := []) (obs := []) hK rfl (fun _ => by kernel_rfl) trivial rfl rfl rfl ?_
                  clear hK a; intro a hK
                  refine wpList_nil ?_
                  refine xt_norm ?_
                  refine vc_cond (t := true) hK (fun _ => rfl) ?_
                  rw [if_pos rfl]
                  refine wp_seq ?_
                  refine wp_region_lit ?_
                  refine st_op (d := 118) (v' := .bool true) (vs := []) (obs := []) hK rfl (fun _ => by kernel_rfl) trivial rfl rfl rfl ?_
                  clear hK a; intro a hK
                  refine st_op (d := 16) (v' := .bool true) (vs := []) (obs := []) hK rfl (fun _ => by kernel_rfl) trivial rfl rfl rfl ?_
                  clear hK a; intro a hK
                  refine wpList_nil ?_
                  refine xt_norm ?_
                  refine wp_ret ?_
                  refine xt_ret ?_
                  refine vc_ret (v' := .bool true) (vs := []) (obs := []) hK (fun _ => by kernel_rfl) trivial rfl ?_
                  exact ⟨rfl, hE.b⟩
              · replace hK := hK.sub (d := 110) (v' := .bool true) rfl (congrArg (fun b => Value.bool !b) hc33)
                refine st_skip (d := 111) hK rfl rfl rfl ?_
                clear hK a; intro a hK
                refine st_skip (d := 112) hK rfl rfl rfl ?_
                clear hK a; intro a hK
                refine st_op (d := 113) (v' := .bool true) (vs := []) (obs := []) hK rfl (fun _ => by kernel_rfl) trivial rfl rfl rfl ?_
                clear hK a; intro a hK
                refine st_op (d := 114) (v' := .bool true) (vs := []) (obs := []) hK rfl (fun _ => by kernel_rfl) trivial rfl rfl rfl ?_
                clear hK a; intro a hK
                refine st_skip (d := 115) hK rfl rfl rfl ?_
                clear hK a; intro a hK
                refine st_skip (d := 116) hK rfl rfl rfl ?_
                clear hK a; intro a hK
                refine st_op (d := 117) (v' := .bool true) (vs := []) (obs := []) hK rfl (fun _ => by kernel_rfl) trivial rfl rfl rfl ?_
                clear hK a; intro a hK
                refine wpList_nil ?_
                refine xt_norm ?_
                refine vc_cond (t := true) hK (fun _ => rfl) ?_
                rw [if_pos rfl]
                refine wp_seq ?_
                refine wp_region_lit ?_
                refine st_op (d := 118) (v' := .bool true) (vs := []) (obs := []) hK rfl (fun _ => by kernel_rfl) trivial rfl rfl rfl ?_
                clear hK a; intro a hK
                refine st_op (d := 16) (v' := .bool true) (vs := []) (obs := []) hK rfl (fun _ => by kernel_rfl) trivial rfl rfl rfl ?_
                clear hK a; intro a hK
                refine wpList_nil ?_
                refine xt_norm ?_
                refine wp_ret ?_
                refine xt_ret ?_
                refine vc_ret (v' := .bool true) (vs := []) (obs := []) hK (fun _ => by kernel_rfl) trivial rfl ?_
                exact ⟨rfl, hE.b⟩
    · replace hK := hK.sub (d := 51) (v' := .bool true) rfl (congrArg (fun b => Value.bool !b) hc16)
      refine st_skip (d := 52) hK rfl rfl rfl ?_
      clear hK a; intro a hK
      refine st_skip (d := 53) hK rfl rfl rfl ?_
      clear hK a; intro a hK
      refine st_skip (d := 54) hK rfl rfl rfl ?_
      clear hK a; intro a hK
      refine st_op (d := 55) (v' := .bool true) (vs := []) (obs := []) hK rfl (fun _ => by kernel_rfl) trivial rfl rfl rfl ?_
      clear hK a; intro a hK
      refine st_op (d := 56) (v' := .bool true) (vs := []) (obs := []) hK rfl (fun _ => by kernel_rfl) trivial rfl rfl rfl ?_
      clear hK a; intro a hK
      refine st_skip (d := 57) hK rfl rfl rfl ?_
      clear hK a; intro a hK
      refine st_skip (d := 58) hK rfl rfl rfl ?_
      clear hK a; intro a hK
      refine st_skip (d := 59) hK rfl rfl rfl ?_
      clear hK a; intro a hK
      refine st_op (d := 60) (v' := .bool true) (vs := []) (obs := []) hK rfl (fun _ => by kernel_rfl) trivial rfl rfl rfl ?_
      clear hK a; intro a hK
      refine st_op (d := 61) (v' := .bool true) (vs := []) (obs := []) hK rfl (fun _ => by kernel_rfl) trivial rfl rfl rfl ?_
      clear hK a; intro a hK
      refine st_skip (d := 62) hK rfl rfl rfl ?_
      clear hK a; intro a hK
      refine st_skip (d := 63) hK rfl rfl rfl ?_
      clear hK a; intro a hK
      refine st_skip (d := 64) hK rfl rfl rfl ?_
      clear hK a; intro a hK
      refine st_op (d := 65) (v' := .bool true) (vs := []) (obs := []) hK rfl (fun _ => by kernel_rfl) trivial rfl rfl rfl ?_
      clear hK a; intro a hK
      refine st_op (d := 66) (v' := .bool true) (vs := []) (obs := []) hK rfl (fun _ => by kernel_rfl) trivial rfl rfl rfl ?_
      clear hK a; intro a hK
      refine st_skip (d := 67) hK rfl rfl rfl ?_
      clear hK a; intro a hK
      refine st_skip (d := 68) hK rfl rfl rfl ?_
      clear hK a; intro a hK
      refine st_skip (d := 69) hK rfl rfl rfl ?_
      clear hK a; intro a hK
      refine st_op (d := 70) (v' := .bool true) (vs := []) (obs := []) hK rfl (fun _ => by kernel_rfl) trivial rfl rfl rfl ?_
      clear hK a; intro a hK
      refine wpList_nil ?_
      replace hK := hK.weak (K' := [(1, .int .i64 key), (2, .int .i64 ts), (4, .int .i64 at_), (8, .pointer (some ⟨g1, 0, none⟩)), (11, .pointer (some ⟨g3, 0, none⟩)), (13, .pointer (some ⟨g5, 0, none⟩)), (14, .pointer (some ⟨g7, 0, none⟩)), (15, .pointer (some ⟨g9, 0, none⟩)), (16, .bool false), (17, .bool true), (70, .bool true)]) ⟨rfl, rfl, rfl, rfl, rfl, rfl, rfl, rfl, rfl, rfl, rfl, trivial⟩
      refine xt_norm ?_
      refine vc_cond (t := true) hK (fun _ => rfl) ?_
      rw [if_pos rfl]
      refine wp_seq ?_
      refine wp_region_lit ?_
      refine st_op (d := 71) (v' := .bool true) (vs := []) (obs := []) hK rfl (fun _ => by kernel_rfl) trivial rfl rfl rfl ?_
      clear hK a; intro a hK
      refine st_op (d := 16) (v' := .bool true) (vs := []) (obs := []) hK rfl (fun _ => by kernel_rfl) trivial rfl rfl rfl ?_
      clear hK a; intro a hK
      refine wpList_nil ?_
      refine xt_norm ?_
      refine wp_ret ?_
      refine xt_ret ?_
      refine vc_ret (v' := .bool true) (vs := []) (obs := []) hK (fun _ => by kernel_rfl) trivial rfl ?_
      exact ⟨rfl, hE.b⟩
  · replace hK := hK.sub (d := 45) (v' := .bool true) rfl (congrArg (fun b => Value.bool !b) hc13)
    refine st_skip (d := 46) hK rfl rfl rfl ?_
    clear hK a; intro a hK
    refine st_skip (d := 47) hK rfl rfl rfl ?_
    clear hK a; intro a hK
    refine st_skip (d := 48) hK rfl rfl rfl ?_
    clear hK a; intro a hK
    refine st_skip (d := 49) hK rfl rfl rfl ?_
    clear hK a; intro a hK
    refine st_op (d := 50) (v' := .bool true) (vs := []) (obs := []) hK rfl (fun _ => by kernel_rfl) trivial rfl rfl rfl ?_
    clear hK a; intro a hK
    refine st_op (d := 51) (v' := .bool true) (vs := []) (obs := []) hK rfl (fun _ => by kernel_rfl) trivial rfl rfl rfl ?_
    clear hK a; intro a hK
    refine st_skip (d := 52) hK rfl rfl rfl ?_
    clear hK a; intro a hK
    refine st_skip (d := 53) hK rfl rfl rfl ?_
    clear hK a; intro a hK
    refine st_skip (d := 54) hK rfl rfl rfl ?_
    clear hK a; intro a hK
    refine st_op (d := 55) (v' := .bool true) (vs := []) (obs := []) hK rfl (fun _ => by kernel_rfl) trivial rfl rfl rfl ?_
    clear hK a; intro a hK
    refine st_op (d := 56) (v' := .bool true) (vs := []) (obs := []) hK rfl (fun _ => by kernel_rfl) trivial rfl rfl rfl ?_
    clear hK a; intro a hK
    refine st_skip (d := 57) hK rfl rfl rfl ?_
    clear hK a; intro a hK
    refine st_skip (d := 58) hK rfl rfl rfl ?_
    clear hK a; intro a hK
    refine st_skip (d := 59) hK rfl rfl rfl ?_
    clear hK a; intro a hK
    refine st_op (d := 60) (v' := .bool true) (vs := []) (obs := []) hK rfl (fun _ => by kernel_rfl) trivial rfl rfl rfl ?_
    clear hK a; intro a hK
    refine st_op (d := 61) (v' := .bool true) (vs := []) (obs := []) hK rfl (fun _ => by kernel_rfl) trivial rfl rfl rfl ?_
    clear hK a; intro a hK
    refine st_skip (d := 62) hK rfl rfl rfl ?_
    clear hK a; intro a hK
    refine st_skip (d := 63) hK rfl rfl rfl ?_
    clear hK a; intro a hK
    refine st_skip (d := 64) hK rfl rfl rfl ?_
    clear hK a; intro a hK
    refine st_op (d := 65) (v' := .bool true) (vs := []) (obs := []) hK rfl (fun _ => by kernel_rfl) trivial rfl rfl rfl ?_
    clear hK a; intro a hK
    refine st_op (d := 66) (v' := .bool true) (vs := []) (obs := []) hK rfl (fun _ => by kernel_rfl) trivial rfl rfl rfl ?_
    clear hK a; intro a hK
    refine st_skip (d := 67) hK rfl rfl rfl ?_
    clear hK a; intro a hK
    refine st_skip (d := 68) hK rfl rfl rfl ?_
    clear hK a; intro a hK
    refine st_skip (d := 69) hK rfl rfl rfl ?_
    clear hK a; intro a hK
    refine st_op (d := 70) (v' := .bool true) (vs := []) (obs := []) hK rfl (fun _ => by kernel_rfl) trivial rfl rfl rfl ?_
    clear hK a; intro a hK
    refine wpList_nil ?_
    replace hK := hK.weak (K' := [(1, .int .i64 key), (2, .int .i64 ts), (4, .int .i64 at_), (8, .pointer (some ⟨g1, 0, none⟩)), (11, .pointer (some ⟨g3, 0, none⟩)), (13, .pointer (some ⟨g5, 0, none⟩)), (14, .pointer (some ⟨g7, 0, none⟩)), (15, .pointer (some ⟨g9, 0, none⟩)), (16, .bool false), (17, .bool true), (70, .bool true)]) ⟨rfl, rfl, rfl, rfl, rfl, rfl, rfl, rfl, rfl, rfl, rfl, trivial⟩
    refine xt_norm ?_
    refine vc_cond (t := true) hK (fun _ => rfl) ?_
    rw [if_pos rfl]
    refine wp_seq ?_
    refine wp_region_lit ?_
    refine st_op (d := 71) (v' := .bool true) (vs := []) (obs := []) hK rfl (fun _ => by kernel_rfl) trivial rfl rfl rfl ?_
    clear hK a; intro a hK
    refine st_op (d := 16) (v' := .bool true) (vs := []) (obs := []) hK rfl (fun _ => by kernel_rfl) trivial rfl rfl rfl ?_
    clear hK a; intro a hK
    refine wpList_nil ?_
    refine xt_norm ?_
    refine wp_ret ?_
    refine xt_ret ?_
    refine vc_ret (v' := .bool true) (vs := []) (obs := []) hK (fun _ => by kernel_rfl) trivial rfl ?_
    exact ⟨rfl, hE.b⟩
end Go.Proofs.Ytcofkflihleckaa
