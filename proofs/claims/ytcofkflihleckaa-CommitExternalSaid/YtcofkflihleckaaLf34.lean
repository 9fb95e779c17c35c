/-
  The walk of the law CommitExternal.
-/
import Derived.Test.YtcofkflihleckaaPr34
import Derived.Test.YtcofkflihleckaaVc
namespace Go.Proofs.Ytcofkflihleckaa
open Go.RowKit Go.Maps
set_option maxRecDepth 100000 in
set_option maxHeartbeats 16000000 in
theorem external_any (one two : LdV) (t : TxV) (at_ later l0 l1 r0 r1 : Int) (w : World) (h1 : LdW w one) (h2 : LdW w two) (h3 : TxW w t) : Calls Try.prog 5 #[.agg #[.int .i64 one.last, .slice one.sa one.st.length one.sc, .slice one.oa one.op.length one.oc], .agg #[.int .i64 two.last, .slice two.sa two.st.length two.sc, .slice two.oa two.op.length two.oc], .agg #[.int .i64 t.t.id, .int .i64 t.t.ts, .slice t.ra t.t.reads.length t.rc, .slice t.wa t.t.writes.length t.wc], .int .i64 at_, .int .i64 later, .agg #[.int .i64 l0, .int .i64 l1], .agg #[.int .i64 r0, .int .i64 r1]] w fun e w' => e = .returned (.bool true) ∧ Below w.heap.size w w' := by
  refine vc_enter (n := 134) Try.func5 rfl rfl rfl (fun a hK => ?_)
  replace hK := hK.weak (K' := [(0, .agg #[.int .i64 one.last, .slice one.sa one.st.length one.sc, .slice one.oa one.op.length one.oc]), (1, .agg #[.int .i64 two.last, .slice two.sa two.st.length two.sc, .slice two.oa two.op.length two.oc]), (2, .agg #[.int .i64 t.t.id, .int .i64 t.t.ts, .slice t.ra t.t.reads.length t.rc, .slice t.wa t.t.writes.length t.wc]), (3, .int .i64 at_), (4, .int .i64 later), (5, .agg #[.int .i64 l0, .int .i64 l1]), (6, .agg #[.int .i64 r0, .int .i64 r1])]) ⟨rfl, rfl, rfl, rfl, rfl, rfl, rfl, trivial⟩
  have hE := Ev.start w
  replace hE := hE.dat (p := fun W => LdW W one) (fun W hW => LdW.then_ h1 hW)
  replace hE := hE.dat (p := fun W => LdW W two) (fun W hW => LdW.then_ h2 hW)
  replace hE := hE.dat (p := fun W => TxW W t) (fun W hW => TxW.then_ h3 hW)
  refine wp_seq ?_
  refine wp_region_lit ?_
  refine st_new (d := 7) (v := fun g => .pointer (some ⟨g, 0, none⟩)) (cs := #[.int .i64 one.last, .slice one.sa one.st.length one.sc, .slice one.oa one.op.length one.oc]) (t := 25) hK hE rfl (fun _ _ => by kernel_rfl) rfl rfl ?_
  clear hK hE a; intro a g1 w2 _ _ hK hE
  refine st_new (d := 8) (v := fun g => .pointer (some ⟨g, 0, none⟩)) (cs := #[.int .i64 two.last, .slice two.sa two.st.length two.sc, .slice two.oa two.op.length two.oc]) (t := 25) hK hE rfl (fun _ _ => by kernel_rfl) rfl rfl ?_
  clear hK hE a; intro a g3 w4 _ _ hK hE
  refine st_new (d := 9) (v := fun g => .pointer (some ⟨g, 0, none⟩)) (cs := #[.int .i64 t.t.id, .int .i64 t.t.ts, .slice t.ra t.t.reads.length t.rc, .slice t.wa t.t.writes.length t.wc]) (t := 29) hK hE rfl (fun _ _ => by kernel_rfl) rfl rfl ?_
  clear hK hE a; intro a g5 w6 _ _ hK hE
  refine st_new (d := 12) (v := fun g => .pointer (some ⟨g, 0, none⟩)) (cs := #[.int .i64 l0, .int .i64 l1]) (t := 51) hK hE rfl (fun _ _ => by kernel_rfl) rfl rfl ?_
  clear hK hE a; intro a g7 w8 _ _ hK hE
  refine st_new (d := 13) (v := fun g => .pointer (some ⟨g, 0, none⟩)) (cs := #[.int .i64 r0, .int .i64 r1]) (t := 51) hK hE rfl (fun _ _ => by kernel_rfl) rfl rfl ?_
  clear hK hE a; intro a g9 w10 _ _ hK hE
  refine st_op (d := 14) (v' := .bool false) (vs := []) (obs := []) hK rfl (fun _ => by kernel_rfl) trivial rfl rfl rfl ?_
  clear hK a; intro a hK
  refine wpList_nil ?_
  refine xt_norm ?_
  refine wp_seq ?_
  refine wp_region_lit ?_
  refine st_call (d := 30) (f := 10) (args := #[]) hK rfl (fun _ => by kernel_rfl) rfl rfl (head34_any _) ?_
  rintro e w11 ⟨rfl, hb⟩
  refine ⟨_, rfl, ?_⟩
  clear hK a; intro a hK
  replace hE := hE.call hb
  clear hb
  refine st_op (d := 15) (v' := .bool true) (vs := []) (obs := []) hK rfl (fun _ => by kernel_rfl) trivial rfl rfl rfl ?_
  clear hK a; intro a hK
  refine wpList_nil ?_
  refine xt_norm ?_
  refine wp_seq ?_
  refine wp_seq ?_
  refine wp_region_lit ?_
  refine st_op (d := 31) (v' := .agg #[.int .i64 one.last, .slice one.sa one.st.length one.sc, .slice one.oa one.op.length one.oc]) (vs := [.int .i64 one.last, .slice one.sa one.st.length one.sc, .slice one.oa one.op.length one.oc]) (obs := [(⟨g1, 0, none⟩, .int .i64 one.last), (⟨g1, 1, none⟩, .slice one.sa one.st.length one.sc), (⟨g1, 2, none⟩, .slice one.oa one.op.length one.oc)]) hK rfl (fun _ => by kernel_rfl) ⟨((hE.blk 4 rfl).cell 0).trans rfl, ((hE.blk 4 rfl).cell 1).trans rfl, ((hE.blk 4 rfl).cell 2).trans rfl, trivial⟩ rfl rfl rfl ?_
  clear hK a; intro a hK
  refine st_call (d := 32) (f := 26) (args := #[.agg #[.int .i64 one.last, .slice one.sa one.st.length one.sc, .slice one.oa one.op.length one.oc]]) hK rfl (fun _ => by kernel_rfl) rfl rfl (usable_any one _ (hE.get 7 rfl)) ?_
  rintro e w12 ⟨rfl, hb⟩
  refine ⟨_, rfl, ?_⟩
  clear hK a; intro a hK
  replace hE := hE.call hb
  clear hb
  refine st_op (d := 33) (v' := .bool (!(fewLB one.d && one.ok))) (vs := []) (obs := []) hK rfl (fun _ => by kernel_rfl) trivial rfl rfl rfl ?_
  clear hK a; intro a hK
  refine st_op (d := 34) (v' := .bool (!(fewLB one.d && one.ok))) (vs := []) (obs := []) hK rfl (fun _ => by kernel_rfl) trivial rfl rfl rfl ?_
  clear hK a; intro a hK
  rcases Bool.eq_false_or_eq_true (fewLB one.d && one.ok) with hc13 | hc13
  · have hus_ := (Bool.and_eq_true _ _).mp hc13
    have hfew1 := hus_.1; have hok1 := hus_.2; have hLS1 := few_S hfew1; have hbd1 := lead_bd hok1; clear hus_
    have hfs1 := few_small hfew1
    have hol1 : one.op.length ≤ 30 := by have := hfs1.2.2; rw [show one.d.op.length = one.op.length from txs_len _] at this; exact this
    replace hK := hK.sub (d := 34) (v' := .bool false) rfl (congrArg (fun b => Value.bool !b) hc13)
    refine st_op (d := 35) (v' := .agg #[.int .i64 two.last, .slice two.sa two.st.length two.sc, .slice two.oa two.op.length two.oc]) (vs := [.int .i64 two.last, .slice two.sa two.st.length two.sc, .slice two.oa two.op.length two.oc]) (obs := [(⟨g3, 0, none⟩, .int .i64 two.last), (⟨g3, 1, none⟩, .slice two.sa two.st.length two.sc), (⟨g3, 2, none⟩, .slice two.oa two.op.length two.oc)]) hK rfl (fun _ => by kernel_rfl) ⟨((hE.blk 3 rfl).cell 0).trans rfl, ((hE.blk 3 rfl).cell 1).trans rfl, ((hE.blk 3 rfl).cell 2).trans rfl, trivial⟩ rfl rfl rfl ?_
    clear hK a; intro a hK
    refine st_call (d := 36) (f := 26) (args := #[.agg #[.int .i64 two.last, .slice two.sa two.st.length two.sc, .slice two.oa two.op.length two.oc]]) hK rfl (fun _ => by kernel_rfl) rfl rfl (usable_any two _ (hE.get 6 rfl)) ?_
    rintro e w14 ⟨rfl, hb⟩
    refine ⟨_, rfl, ?_⟩
    clear hK a; intro a hK
    replace hE := hE.call hb
    clear hb
    refine st_op (d := 37) (v' := .bool (!(fewLB two.d && two.ok))) (vs := []) (obs := []) hK rfl (fun _ => by kernel_rfl) trivial rfl rfl rfl ?_
    clear hK a; intro a hK
    refine st_op (d := 38) (v' := .bool (!(fewLB two.d && two.ok))) (vs := []) (obs := []) hK rfl (fun _ => by kernel_rfl) trivial rfl rfl rfl ?_
    clear hK a; intro a hK
    refine st_op (d := 39) (v' := .bool (!(fewLB two.d && two.ok))) (vs := []) (obs := []) hK rfl (fun _ => by kernel_rfl) trivial rfl rfl rfl ?_
    clear hK a; intro a hK
    rcases Bool.eq_false_or_eq_true (fewLB two.d && two.ok) with hc15 | hc15
    · have hus_ := (Bool.and_eq_true _ _).mp hc15
      have hfew2 := hus_.1; have hok2 := hus_.2; have hLS2 := few_S hfew2; have hbd2 := lead_bd hok2; clear hus_
      have hfs2 := few_small hfew2
      have hol2 : two.op.length ≤ 30 := by have := hfs2.2.2; rw [show two.d.op.length = two.op.length from txs_len _] at this; exact this
      replace hK := hK.sub (d := 39) (v' := .bool false) rfl (congrArg (fun b => Value.bool !b) hc15)
      refine st_op (d := 40) (v' := .agg #[.int .i64 t.t.id, .int .i64 t.t.ts, .slice t.ra t.t.reads.length t.rc, .slice t.wa t.t.writes.length t.wc]) (vs := [.int .i64 t.t.id, .int .i64 t.t.ts, .slice t.ra t.t.reads.length t.rc, .slice t.wa t.t.writes.length t.wc]) (obs := [(⟨g5, 0, none⟩, .int .i64 t.t.id), (⟨g5, 1, none⟩, .int .i64 t.t.ts), (⟨g5, 2, none⟩, .slice t.ra t.t.reads.length t.rc), (⟨g5, 3, none⟩, .slice t.wa t.t.writes.length t.wc)]) hK rfl (fun _ => by kernel_rfl) ⟨((hE.blk 2 rfl).cell 0).trans rfl, ((hE.blk 2 rfl).cell 1).trans rfl, ((hE.blk 2 rfl).cell 2).trans rfl, ((hE.blk 2 rfl).cell 3).trans rfl, trivial⟩ rfl rfl rfl ?_
      clear hK a; intro a hK
      refine st_new (d := 41) (v := fun g => .slice (some ⟨g, 0, none⟩) 1 1) (cs := #[.int .i64 t.t.id, .int .i64 t.t.ts, .slice t.ra t.t.reads.length t.rc, .slice t.wa t.t.writes.length t.wc]) (t := 29) hK hE rfl (fun _ _ => by kernel_rfl) rfl rfl ?_
      clear hK hE a; intro a g16 w17 _ _ hK hE
      refine st_call (d := 42) (f := 12) (args := #[.slice (some ⟨g16, 0, none⟩) 1 1]) hK rfl (fun _ => by kernel_rfl) rfl rfl (fewTxs_any (some ⟨g16, 0, none⟩) 1 [t] _ (Nat.le_refl _) (by simp [maxLen]) ⟨by have hh := Rd.of_blk (hE.blk 0 rfl); exact hh, fun x hx => by obtain rfl : x = t := (by simpa using hx); exact (hE.get 6 rfl)⟩) ?_
      rintro e _ ⟨rfl, rfl⟩
      refine ⟨_, rfl, ?_⟩
      clear hK a; intro a hK
      refine st_op (d := 43) (v' := .bool (!(fewTB (txs [t])))) (vs := []) (obs := []) hK rfl (fun _ => by kernel_rfl) trivial rfl rfl rfl ?_
      clear hK a; intro a hK
      refine st_op (d := 44) (v' := .bool (!(fewTB (txs [t])))) (vs := []) (obs := []) hK rfl (fun _ => by kernel_rfl) trivial rfl rfl rfl ?_
      clear hK a; intro a hK
      refine st_op (d := 45) (v' := .bool (!(fewTB (txs [t])))) (vs := []) (obs := []) hK rfl (fun _ => by kernel_rfl) trivial rfl rfl rfl ?_
      clear hK a; intro a hK
      rcases Bool.eq_false_or_eq_true (fewTB (txs [t])) with hc18 | hc18
      · have hv20t := fewT_small (t := t.t) hc18
        have hsmt : t.t.reads.length ≤ 100 ∧ t.t.writes.length ≤ 100 := by omega
        replace hK := hK.sub (d := 45) (v' := .bool false) rfl (congrArg (fun b => Value.bool !b) hc18)
        refine st_op (d := 46) (v' := .int .i64 later) (vs := []) (obs := []) hK rfl (fun _ => by kernel_rfl) trivial rfl rfl rfl ?_
        clear hK a; intro a hK
        refine st_op (d := 47) (v' := .bool (decide (later < 0))) (vs := []) (obs := []) hK rfl (fun _ => by kernel_rfl) trivial rfl rfl rfl ?_
        clear hK a; intro a hK
        refine st_op (d := 48) (v' := .bool (decide (later < 0))) (vs := []) (obs := []) hK rfl (fun _ => by kernel_rfl) trivial rfl rfl rfl ?_
        clear hK a; intro a hK
        refine st_op (d := 49) (v' := .bool (decide (later < 0))) (vs := []) (obs := []) hK rfl (fun _ => by kernel_rfl) trivial rfl rfl rfl ?_
        clear hK a; intro a hK
        rcases Bool.eq_false_or_eq_true (decide (later < 0)) with hc19 | hc19
        · have hc19p := of_decide_eq_true hc19
          replace hK := hK.sub (d := 49) (v' := .bool true) rfl (congrArg Value.bool hc19)
          refine st_skip (d := 50) hK rfl rfl rfl ?_
          clear hK a; intro a hK
          refine st_skip (d := 51) hK rfl rfl rfl ?_
          clear hK a; intro a hK
          refine st_op (d := 52) (v' := .bool true) (vs := []) (obs := []) hK rfl (fun _ => by kernel_rfl) trivial rfl rfl rfl ?_
          clear hK a; intro a hK
          refine wpList_nil ?_
          replace hK := hK.weak (K' := [(3, .int .i64 at_), (4, .int .i64 later), (7, .pointer (some ⟨g1, 0, none⟩)), (8, .pointer (some ⟨g3, 0, none⟩)), (9, .pointer (some ⟨g5, 0, none⟩)), (12, .pointer (some ⟨g7, 0, none⟩)), (13, .pointer (some ⟨g9, 0, none⟩)), (14, .bool false), (15, .bool true), (52, .bool true)]) ⟨rfl, rfl, rfl, rfl, rfl, rfl, rfl, rfl, rfl, rfl, trivial⟩
          refine xt_norm ?_
          refine vc_cond (t := true) hK (fun _ => rfl) ?_
          rw [if_pos rfl]
          refine wp_seq ?_
          refine wp_region_lit ?_
          refine st_op (d := 53) (v' := .bool true) (vs := []) (obs := []) hK rfl (fun _ => by kernel_rfl) trivial rfl rfl rfl ?_
          clear hK a; intro a hK
          refine st_op (d := 14) (v' := .bool true) (vs := []) (obs := []) hK rfl (fun _ => by kernel_rfl) trivial rfl rfl rfl ?_
          clear hK a; intro a hK
          refine wpList_nil ?_
          refine xt_norm ?_
          refine wp_ret ?_
          refine xt_ret ?_
          refine vc_ret (v' := .bool true) (vs := []) (obs := []) hK (fun _ => by kernel_rfl) trivial rfl ?_
          exact ⟨rfl, hE.b⟩
        · have hc19p := of_decide_eq_false hc19
          replace hK := hK.sub (d := 49) (v' := .bool false) rfl (congrArg Value.bool hc19)
          refine st_op (d := 50) (v' := .int .i64 later) (vs := []) (obs := []) hK rfl (fun _ => by kernel_rfl) trivial rfl rfl rfl ?_
          clear hK a; intro a hK
          refine st_op (d := 51) (v' := .bool (decide (later > 1000000000000))) (vs := []) (obs := []) hK rfl (fun _ => by kernel_rfl) trivial rfl rfl rfl ?_
          clear hK a; intro a hK
          refine st_op (d := 52) (v' := .bool (decide (later > 1000000000000))) (vs := []) (obs := []) hK rfl (fun _ => by kernel_rfl) trivial rfl rfl rfl ?_
          clear hK a; intro a hK
          refine wpList_nil ?_
          replace hK := hK.weak (K' := [(3, .int .i64 at_), (4, .int .i64 later), (7, .pointer (some ⟨g1, 0, none⟩)), (8, .pointer (some ⟨g3, 0, none⟩)), (9, .pointer (some ⟨g5, 0, none⟩)), (12, .pointer (some ⟨g7, 0, none⟩)), (13, .pointer (some ⟨g9, 0, none⟩)), (14, .bool false), (15, .bool true), (52, .bool (decide (later > 1000000000000)))]) ⟨rfl, rfl, rfl, rfl, rfl, rfl, rfl, rfl, rfl, rfl, trivial⟩
          refine xt_norm ?_
          rcases Bool.eq_false_or_eq_true (decide (later > 1000000000000)) with hc20 | hc20
          · have hc20p := of_decide_eq_true hc20
            replace hK := hK.sub (d := 52) (v' := .bool true) rfl (congrArg Value.bool hc20)
            refine vc_cond (t := true) hK (fun _ => rfl) ?_
            rw [if_pos rfl]
            refine wp_seq ?_
            refine wp_region_lit ?_
            refine st_op (d := 53) (v' := .bool true) (vs := []) (obs := []) hK rfl (fun _ => by kernel_rfl) trivial rfl rfl rfl ?_
            clear hK a; intro a hK
            refine st_op (d := 14) (v' := .bool true) (vs := []) (obs := []) hK rfl (fun _ => by kernel_rfl) trivial rfl rfl rfl ?_
            clear hK a; intro a hK
            refine wpList_nil ?_
            refine xt_norm ?_
            refine wp_ret ?_
            refine xt_ret ?_
            refine vc_ret (v' := .bool true) (vs := []) (obs := []) hK (fun _ => by kernel_rfl) trivial rfl ?_
            exact ⟨rfl, hE.b⟩
          · have hc20p := of_decide_eq_false hc20
            replace hK := hK.sub (d := 52) (v' := .bool false) rfl (congrArg Value.bool hc20)
            refine vc_cond (t := false) hK (fun _ => rfl) ?_
            rw [if_neg (by simp)]
            refine wp_skip ?_
            refine xt_norm ?_
            refine wp_seq ?_
            refine wp_region_lit ?_
            refine st_op (d := 55) (v' := .int .i64 at_) (vs := []) (obs := []) hK rfl (fun _ => by kernel_rfl) trivial rfl rfl rfl ?_
            clear hK a; intro a hK
            refine st_op (d := 56) (v' := .pointer (some ⟨g7, 0, none⟩)) (vs := []) (obs := []) hK rfl (fun _ => by kernel_rfl) trivial rfl rfl rfl ?_
            clear hK a; intro a hK
            refine st_op (d := 57) (v' := .int .i64 l0) (vs := [.int .i64 l0]) (obs := [(⟨g7, 0, none⟩, .int .i64 l0)]) hK rfl (fun _ => by kernel_rfl) ⟨((hE.blk 2 rfl).cell 0).trans rfl, trivial⟩ rfl rfl rfl ?_
            clear hK a; intro a hK
            refine st_op (d := 58) (v' := .pointer (some ⟨g9, 0, none⟩)) (vs := []) (obs := []) hK rfl (fun _ => by kernel_rfl) trivial rfl rfl rfl ?_
            clear hK a; intro a hK
            refine st_op (d := 59) (v' := .int .i64 r0) (vs := [.int .i64 r0]) (obs := [(⟨g9, 0, none⟩, .int .i64 r0)]) hK rfl (fun _ => by kernel_rfl) ⟨((hE.blk 1 rfl).cell 0).trans rfl, trivial⟩ rfl rfl rfl ?_
            clear hK a; intro a hK
            refine st_call (d := 60) (f := 27) (args := #[.int .i64 at_, .int .i64 l0, .int .i64 r0]) hK rfl (fun _ => by kernel_rfl) rfl rfl (around_any at_ l0 r0 _) ?_
            rintro e w21 ⟨rfl, hb⟩
            refine ⟨_, rfl, ?_⟩
            clear hK a; intro a hK
            replace hE := hE.call hb
            clear hb
            refine st_op (d := 54) (v' := .tuple #[.agg #[.int .i64 (aroundS at_ l0 r0).1.1, .int .i64 (aroundS at_ l0 r0).1.2], .bool (aroundS at_ l0 r0).2]) (vs := []) (obs := []) hK rfl (fun _ => by kernel_rfl) trivial rfl rfl rfl ?_
            clear hK a; intro a hK
            refine st_op (d := 61) (v' := .agg #[.int .i64 (aroundS at_ l0 r0).1.1, .int .i64 (aroundS at_ l0 r0).1.2]) (vs := []) (obs := []) hK rfl (fun _ => by kernel_rfl) trivial rfl rfl rfl ?_
            clear hK a; intro a hK
            refine st_op (d := 62) (v' := .bool (aroundS at_ l0 r0).2) (vs := []) (obs := []) hK rfl (fun _ => by kernel_rfl) trivial rfl rfl rfl ?_
            clear hK a; intro a hK
            refine st_new (d := 16) (v := fun g => .pointer (some ⟨g, 0, none⟩)) (cs := #[.int .i64 0, .int .i64 0]) (t := 31) hK hE rfl (fun _ _ => by kernel_rfl) rfl rfl ?_
            clear hK hE a; intro a g22 w23 _ _ hK hE
            refine st_store2 0 [(0, .int .i64 (aroundS at_ l0 r0).1.1), (1, .int .i64 (aroundS at_ l0 r0).1.2)] hK hE rfl rfl (fun _ => by kernel_rfl) rfl rfl rfl ?_
            clear hE; intro w24 hs_ hk_ hE
            clear hs_ hk_
            refine st_op (d := 17) (v' := .bool (aroundS at_ l0 r0).2) (vs := []) (obs := []) hK rfl (fun _ => by kernel_rfl) trivial rfl rfl rfl ?_
            clear hK a; intro a hK
            refine wpList_nil ?_
            refine xt_norm ?_
            refine wp_seq ?_
            refine wp_region_lit ?_
            refine st_op (d := 64) (v' := .int .i64 at_) (vs := []) (obs := []) hK rfl (fun _ => by kernel_rfl) trivial rfl rfl rfl ?_
            clear hK a; intro a hK
            refine st_op (d := 65) (v' := .int .i64 later) (vs := []) (obs := []) hK rfl (fun _ => by kernel_rfl) trivial rfl rfl rfl ?_
            clear hK a; intro a hK
            refine st_op (d := 66) (v' := .int .i64 (IntKind.i64.wrap (at_ + later))) (vs := []) (obs := []) hK rfl (fun _ => by kernel_rfl) trivial rfl rfl rfl ?_
            clear hK a; intro a hK
            refine st_op (d := 67) (v' := .pointer (some ⟨g7, 1, none⟩)) (vs := []) (obs := []) hK rfl (fun _ => by kernel_rfl) trivial rfl rfl rfl ?_
            clear hK a; intro a hK
            refine st_op (d := 68) (v' := .int .i64 l1) (vs := [.int .i64 l1]) (obs := [(⟨g7, 1, none⟩, .int .i64 l1)]) hK rfl (fun _ => by kernel_rfl) ⟨((hE.blk 3 rfl).cell 1).trans rfl, trivial⟩ rfl rfl rfl ?_
            clear hK a; intro a hK
            refine st_op (d := 69) (v' := .pointer (some ⟨g9, 1, none⟩)) (vs := []) (obs := []) hK rfl (fun _ => by kernel_rfl) trivial rfl rfl rfl ?_
            clear hK a; intro a hK
            refine st_op (d := 70) (v' := .int .i64 r1) (vs := [.int .i64 r1]) (obs := [(⟨g9, 1, none⟩, .int .i64 r1)]) hK rfl (fun _ => by kernel_rfl) ⟨((hE.blk 2 rfl).cell 1).trans rfl, trivial⟩ rfl rfl rfl ?_
            clear hK a; intro a hK
            refine st_call (d := 71) (f := 27) (args := #[.int .i64 (IntKind.i64.wrap (at_ + later)), .int .i64 l1, .int .i64 r1]) hK rfl (fun _ => by kernel_rfl) rfl rfl (around_any (IntKind.i64.wrap (at_ + later)) l1 r1 _) ?_
            rintro e w25 ⟨rfl, hb⟩
            refine ⟨_, rfl, ?_⟩
            clear hK a; intro a hK
            replace hE := hE.call hb
            clear hb
            refine st_op (d := 63) (v' := .tuple #[.agg #[.int .i64 (aroundS (IntKind.i64.wrap (at_ + later)) l1 r1).1.1, .int .i64 (aroundS (IntKind.i64.wrap (at_ + later)) l1 r1).1.2], .bool (aroundS (IntKind.i64.wrap (at_ + later)) l1 r1).2]) (vs := []) (obs := []) hK rfl (fun _ => by kernel_rfl) trivial rfl rfl rfl ?_
            clear hK a; intro a hK
            refine st_op (d := 72) (v' := .agg #[.int .i64 (aroundS (IntKind.i64.wrap (at_ + later)) l1 r1).1.1, .int .i64 (aroundS (IntKind.i64.wrap (at_ + later)) l1 r1).1.2]) (vs := []) (obs := []) hK rfl (fun _ => by kernel_rfl) trivial rfl rfl rfl ?_
            clear hK a; intro a hK
            refine st_op (d := 73) (v' := .bool (aroundS (IntKind.i64.wrap (at_ + later)) l1 r1).2) (vs := []) (obs := []) hK rfl (fun _ => by kernel_rfl) trivial rfl rfl rfl ?_
            clear hK a; intro a hK
            refine st_new (d := 18) (v := fun g => .pointer (some ⟨g, 0, none⟩)) (cs := #[.int .i64 0, .int .i64 0]) (t := 31) hK hE rfl (fun _ _ => by kernel_rfl) rfl rfl ?_
            clear hK hE a; intro a g26 w27 _ _ hK hE
            refine st_store2 0 [(0, .int .i64 (aroundS (IntKind.i64.wrap (at_ + later)) l1 r1).1.1), (1, .int .i64 (aroundS (IntKind.i64.wrap (at_ + later)) l1 r1).1.2)] hK hE rfl rfl (fun _ => by kernel_rfl) rfl rfl rfl ?_
            clear hE; intro w28 hs_ hk_ hE
            clear hs_ hk_
            refine st_op (d := 19) (v' := .bool (aroundS (IntKind.i64.wrap (at_ + later)) l1 r1).2) (vs := []) (obs := []) hK rfl (fun _ => by kernel_rfl) trivial rfl rfl rfl ?_
            clear hK a; intro a hK
            refine wpList_nil ?_
            replace hK := hK.weak (K' := [(3, .int .i64 at_), (7, .pointer (some ⟨g1, 0, none⟩)), (8, .pointer (some ⟨g3, 0, none⟩)), (9, .pointer (some ⟨g5, 0, none⟩)), (14, .bool false), (15, .bool true), (16, .pointer (some ⟨g22, 0, none⟩)), (17, .bool (aroundS at_ l0 r0).2), (18, .pointer (some ⟨g26, 0, none⟩)), (19, .bool (aroundS (IntKind.i64.wrap (at_ + later)) l1 r1).2)]) ⟨rfl, rfl, rfl, rfl, rfl, rfl, rfl, rfl, rfl, rfl, trivial⟩
            refine xt_norm ?_
            refine wp_seq ?_
            refine wp_seq ?_
            refine wp_region_lit ?_
            refine st_op (d := 74) (v' := .bool (aroundS at_ l0 r0).2) (vs := []) (obs := []) hK rfl (fun _ => by kernel_rfl) trivial rfl rfl rfl ?_
            clear hK a; intro a hK
            refine st_op (d := 75) (v' := .bool (!(aroundS at_ l0 r0).2)) (vs := []) (obs := []) hK rfl (fun _ => by kernel_rfl) trivial rfl rfl rfl ?_
            clear hK a; intro a hK
            refine st_op (d := 76) (v' := .bool (!(aroundS at_ l0 r0).2)) (vs := []) (obs := []) hK rfl (fun _ => by kernel_rfl) trivial rfl rfl rfl ?_
            clear hK a; intro a hK
            rcases Bool.eq_false_or_eq_true ((aroundS at_ l0 r0).2) with hc29 | hc29
            · have ha1 := around_ok hc29
              replace hK := hK.sub (d := 76) (v' := .bool false) rfl (congrArg (fun b => Value.bool !b) hc29)
              refine st_op (d := 77) (v' := .bool (aroundS (IntKind.i64.wrap (at_ + later)) l1 r1).2) (vs := []) (obs := []) hK rfl (fun _ => by kernel_rfl) trivial rfl rfl rfl ?_
              clear hK a; intro a hK
              refine st_op (d := 78) (v' := .bool (!(aroundS (IntKind.i64.wrap (at_ + later)) l1 r1).2)) (vs := []) (obs := []) hK rfl (fun _ => by kernel_rfl) trivial rfl rfl rfl ?_
              clear hK a; intro a hK
              refine st_op (d := 79) (v' := .bool (!(aroundS (IntKind.i64.wrap (at_ + later)) l1 r1).2)) (vs := []) (obs := []) hK rfl (fun _ => by kernel_rfl) trivial rfl rfl rfl ?_
              clear hK a; intro a hK
              refine wpList_nil ?_
              refine xt_norm ?_
              rcases Bool.eq_false_or_eq_true ((aroundS (IntKind.i64.wrap (at_ + later)) l1 r1).2) with hc30 | hc30
              · have ha2 := around_ok hc30
                have hsum := wrap_sum (a := at_) (b := later) (by omega) (by omega)
                replace hK := hK.sub (d := 79) (v' := .bool false) rfl (congrArg (fun b => Value.bool !b) hc30)
                refine vc_cond (t := false) hK (fun _ => rfl) ?_
                rw [if_neg (by simp)]
                refine wp_skip ?_
                refine xt_norm ?_
                refine wp_seq ?_
                refine wp_region_lit ?_
                refine st_op (d := 82) (v' := .agg #[.int .i64 one.last, .slice one.sa one.st.length one.sc, .slice one.oa one.op.length one.oc]) (vs := [.int .i64 one.last, .slice one.sa one.st.length one.sc, .slice one.oa one.op.length one.oc]) (obs := [(⟨g1, 0, none⟩, .int .i64 one.last), (⟨g1, 1, none⟩, .slice one.sa one.st.length one.sc), (⟨g1, 2, none⟩, .slice one.oa one.op.length one.oc)]) hK rfl (fun _ => by kernel_rfl) ⟨((hE.blk 7 rfl).cell 0).trans rfl, ((hE.blk 7 rfl).cell 1).trans rfl, ((hE.blk 7 rfl).cell 2).trans rfl, trivial⟩ rfl rfl rfl ?_
                clear hK a; intro a hK
                refine st_op (d := 83) (v' := .agg #[.int .i64 (aroundS at_ l0 r0).1.1, .int .i64 (aroundS at_ l0 r0).1.2]) (vs := [.int .i64 (aroundS at_ l0 r0).1.1, .int .i64 (aroundS at_ l0 r0).1.2]) (obs := [(⟨g22, 0, none⟩, .int .i64 (aroundS at_ l0 r0).1.1), (⟨g22, 1, none⟩, .int .i64 (aroundS at_ l0 r0).1.2)]) hK rfl (fun _ => by kernel_rfl) ⟨((hE.blk 1 rfl).cell 0).trans rfl, ((hE.blk 1 rfl).cell 1).trans rfl, trivial⟩ rfl rfl rfl ?_
                clear hK a; intro a hK
                refine st_call (d := 84) (f := 19) (args := #[.agg #[.int .i64 one.last, .slice one.sa one.st.length one.sc, .slice one.oa one.op.length one.oc], .agg #[.int .i64 (aroundS at_ l0 r0).1.1, .int .i64 (aroundS at_ l0 r0).1.2]]) hK rfl (fun _ => by kernel_rfl) rfl rfl (show_any one (aroundS at_ l0 r0).1.1 (aroundS at_ l0 r0).1.2 _ hLS1 (hE.get 10 rfl)) ?_
                rintro e w35 ⟨M31, A32, c33, m34, rfl, hM31, hm31, hl31, ht31, hc31, hk31, hb⟩
                refine ⟨_, rfl, ?_⟩
                clear hK a; intro a hK
                replace hE := hE.call hb
                clear hb
                replace hE := hE.dat (p := fun W => LdW W M31) (fun W hW => LdW.then_ hl31 hW)
                replace hE := hE.dat (p := fun W => TS W A32 m34) (fun W hW => TS.then_ ht31 hW)
                simp only [maxLen] at hk31
                refine st_op (d := 81) (v' := .tuple #[.agg #[.int .i64 M31.last, .slice M31.sa M31.st.length M31.sc, .slice M31.oa M31.op.length M31.oc], .slice A32 m34.length c33, .int .i64 (showS one.d (aroundS at_ l0 r0).1.1 (aroundS at_ l0 r0).1.2).2.2]) (vs := []) (obs := []) hK rfl (fun _ => by kernel_rfl) trivial rfl rfl rfl ?_
                clear hK a; intro a hK
                refine st_op (d := 85) (v' := .agg #[.int .i64 M31.last, .slice M31.sa M31.st.length M31.sc, .slice M31.oa M31.op.length M31.oc]) (vs := []) (obs := []) hK rfl (fun _ => by kernel_rfl) trivial rfl rfl rfl ?_
                clear hK a; intro a hK
                refine st_op (d := 86) (v' := .slice A32 m34.length c33) (vs := []) (obs := []) hK rfl (fun _ => by kernel_rfl) trivial rfl rfl rfl ?_
                clear hK a; intro a hK
                refine st_op (d := 87) (v' := .int .i64 (showS one.d (aroundS at_ l0 r0).1.1 (aroundS at_ l0 r0).1.2).2.2) (vs := []) (obs := []) hK rfl (fun _ => by kernel_rfl) trivial rfl rfl rfl ?_
                clear hK a; intro a hK
                refine st_new (d := 20) (v := fun g => .pointer (some ⟨g, 0, none⟩)) (cs := #[.int .i64 0, .slice none 0 0, .slice none 0 0]) (t := 25) hK hE rfl (fun _ _ => by kernel_rfl) rfl rfl ?_
                clear hK hE a; intro a g36 w37 _ _ hK hE
                refine st_store2 0 [(0, .int .i64 M31.last), (1, .slice M31.sa M31.st.length M31.sc), (2, .slice M31.oa M31.op.length M31.oc)] hK hE rfl rfl (fun _ => by kernel_rfl) rfl rfl rfl ?_
                clear hE; intro w38 hs_ hk_ hE
                clear hs_ hk_
                refine st_op (d := 21) (v' := .slice A32 m34.length c33) (vs := []) (obs := []) hK rfl (fun _ => by kernel_rfl) trivial rfl rfl rfl ?_
                clear hK a; intro a hK
                refine st_op (d := 22) (v' := .int .i64 (showS one.d (aroundS at_ l0 r0).1.1 (aroundS at_ l0 r0).1.2).2.2) (vs := []) (obs := []) hK rfl (fun _ => by kernel_rfl) trivial rfl rfl rfl ?_
                clear hK a; intro a hK
                refine wpList_nil ?_
                refine xt_norm ?_
                refine wp_seq ?_
                refine wp_seq ?_
                refine wp_region_lit ?_
                refine st_op (d := 88) (v' := .int .i64 (showS one.d (aroundS at_ l0 r0).1.1 (aroundS at_ l0 r0).1.2).2.2) (vs := []) (obs := []) hK rfl (fun _ => by kernel_rfl) trivial rfl rfl rfl ?_
                clear hK a; intro a hK
                refine st_op (d := 89) (v' := .bool ((showS one.d (aroundS at_ l0 r0).1.1 (aroundS at_ l0 r0).1.2).2.2 != 0)) (v := .bool (!((showS one.d (aroundS at_ l0 r0).1.1 (aroundS at_ l0 r0).1.2).2.2 == 0))) (vs := []) (obs := []) hK rfl (fun _ => by kernel_rfl) trivial rfl rfl rfl ?_
                clear hK a; intro a hK
                refine wpList_nil ?_
                refine xt_norm ?_
                have hsh := show_all (D := one.d) (lo := (aroundS at_ l0 r0).1.1) (hi := (aroundS at_ l0 r0).1.2) hok1 ha1.2.2.2.2
                have hLSM31 := LdS.shown hLS1 hsh hM31
                have hd39 : (((showS one.d (aroundS at_ l0 r0).1.1 (aroundS at_ l0 r0).1.2).2.2 == 0)) = true := beq_iff_eq.2 hsh
                replace hK := hK.sub (d := 89) (v' := .bool false) rfl (congrArg (fun b => Value.bool !b) hd39)
                refine vc_cond (t := false) hK (fun _ => rfl) ?_
                rw [if_neg (by simp)]
                refine wp_skip ?_
                refine xt_norm ?_
                refine wp_seq ?_
                refine wp_seq ?_
                refine wp_region_lit ?_
                refine st_op (d := 90) (v' := .slice A32 m34.length c33) (vs := []) (obs := []) hK rfl (fun _ => by kernel_rfl) trivial rfl rfl rfl ?_
                clear hK a; intro a hK
                refine st_op (d := 91) (v' := .int .i64 ((m34.length : Nat) : Int)) (vs := []) (obs := []) hK rfl (fun _ => by kernel_rfl) trivial rfl rfl rfl ?_
                clear hK a; intro a hK
                refine st_op (d := 92) (v' := .int .i64 0) (vs := []) (obs := []) hK rfl (fun _ => by kernel_rfl) trivial rfl rfl rfl ?_
                clear hK a; intro a hK
                refine wpList_nil ?_
                replace hK := hK.weak (K' := [(3, .int .i64 at_), (8, .pointer (some ⟨g3, 0, none⟩)), (9, .pointer (some ⟨g5, 0, none⟩)), (14, .bool false), (15, .bool true), (18, .pointer (some ⟨g26, 0, none⟩)), (20, .pointer (some ⟨g36, 0, none⟩)), (90, .slice A32 m34.length c33), (91, .int .i64 ((m34.length : Nat) : Int)), (92, .int .i64 0)]) ⟨rfl, rfl, rfl, rfl, rfl, rfl, rfl, rfl, rfl, rfl, trivial⟩
                refine xt_norm ?_
                refine wp_block ?_
                refine vc_loop (γ := Nat) (fun k a w_ => Kn 134 [(3, .int .i64 at_), (8, .pointer (some ⟨g3, 0, none⟩)), (9, .pointer (some ⟨g5, 0, none⟩)), (14, .bool false), (18, .pointer (some ⟨g26, 0, none⟩)), (20, .pointer (some ⟨g36, 0, none⟩)), (90, .slice A32 m34.length c33), (91, .int .i64 ((m34.length : Nat) : Int)), (92, .int .i64 ((k : Nat) : Int)), (15, .bool true)] a ∧ Ev w w_ [.blk g36 25 #[.int .i64 M31.last, .slice M31.sa M31.st.length M31.sc, .slice M31.oa M31.op.length M31.oc], .dat (fun W => TS W A32 m34), .dat (fun W => LdW W M31), .blk g26 31 #[.int .i64 (aroundS (IntKind.i64.wrap (at_ + later)) l1 r1).1.1, .int .i64 (aroundS (IntKind.i64.wrap (at_ + later)) l1 r1).1.2], .blk g22 31 #[.int .i64 (aroundS at_ l0 r0).1.1, .int .i64 (aroundS at_ l0 r0).1.2], .blk g16 29 #[.int .i64 t.t.id, .int .i64 t.t.ts, .slice t.ra t.t.reads.length t.rc, .slice t.wa t.t.writes.length t.wc], .blk g9 51 #[.int .i64 r0, .int .i64 r1], .blk g7 51 #[.int .i64 l0, .int .i64 l1], .blk g5 29 #[.int .i64 t.t.id, .int .i64 t.t.ts, .slice t.ra t.t.reads.length t.rc, .slice t.wa t.t.writes.length t.wc], .blk g3 25 #[.int .i64 two.last, .slice two.sa two.st.length two.sc, .slice two.oa two.op.length two.oc], .blk g1 25 #[.int .i64 one.last, .slice one.sa one.st.length one.sc, .slice one.oa one.op.length one.oc], .dat (fun W => TxW W t), .dat (fun W => LdW W two), .dat (fun W => LdW W one)] ∧ (k ≤ m34.length) ∧ (True)) (fun k => m34.length - k) 0 ?_ ?_
                · replace hK := hK.sub (d := 92) (v' := .int .i64 ((0 : Nat) : Int)) rfl (by first | rfl | (congr 1; omega))
                  replace hK := hK.sub (d := 15) (v' := .bool true) rfl (by first | rfl | (congr 1; omega))
                  refine ⟨hK.weak ⟨rfl, rfl, rfl, rfl, rfl, rfl, rfl, rfl, rfl, rfl, trivial⟩, hE, by omega, trivial⟩
                · clear hK hE a; rintro k a w40 ⟨hK, hE, hf41, -⟩
                  refine wp_seq ?_
                  refine wp_region_lit ?_
                  refine st_op (d := 93) (v' := .bool (decide (((k : Nat) : Int) < ((m34.length : Nat) : Int)))) (vs := []) (obs := []) hK rfl (fun _ => by kernel_rfl) trivial rfl rfl rfl ?_
                  clear hK a; intro a hK
                  refine wpList_nil ?_
                  refine xt_norm ?_
                  refine wp_seq ?_
                  rcases Bool.eq_false_or_eq_true (decide (((k : Nat) : Int) < ((m34.length : Nat) : Int))) with hc42 | hc42
                  · have hc42p := of_decide_eq_true hc42
                    replace hK := hK.sub (d := 93) (v' := .bool true) rfl (congrArg Value.bool hc42)
                    refine vc_cond (t := true) hK (fun _ => rfl) ?_
                    rw [if_pos rfl]
                    refine wp_skip ?_
                    refine xt_norm ?_
                    refine wp_seq ?_
                    refine wp_block ?_
                    refine wp_seq ?_
                    refine wp_region_lit ?_
                    obtain ⟨x43, hx44⟩ : ∃ x, m34[k]? = some x := ⟨_, List.getElem?_eq_getElem (by omega)⟩
                    obtain ⟨b45, o46, hA48, hr47⟩ := row_open (f := TxV.cells) (m := 4) TxV.len (fun W hW => (TS.row ((hE.call hW).get 1 rfl))) (by decide) hx44
                    replace hE := hE.dat (p := fun W => ∀ i x, m34[i]? = some x → Rec W b45 (o46 + i * 4) (TxV.cells x)) hr47
                    clear hr47
                    replace hE := hE.dat (p := fun W => Rec W b45 (o46 + k * 4) (TxV.cells x43)) (fun W hW => ((hE.call hW).get 0 rfl) _ _ hx44)
                    refine st_ix (d := 94) (j := k) (m := 4) hK rfl rfl (fun _ => congrArg (fun A => Value.slice A m34.length c33) hA48) (fun _ => rfl) (by omega) (by have := (List.getElem?_eq_some_iff.1 hx44).1; omega) Try.underlying23 rfl rfl rfl rfl ?_
                    clear hK a; intro a hK
                    refine st_op (d := 95) (v' := .agg #[.int .i64 x43.t.id, .int .i64 x43.t.ts, .slice x43.ra x43.t.reads.length x43.rc, .slice x43.wa x43.t.writes.length x43.wc]) (vs := [.int .i64 x43.t.id, .int .i64 x43.t.ts, .slice x43.ra x43.t.reads.length x43.rc, .slice x43.wa x43.t.writes.length x43.wc]) (obs := [(⟨b45, o46 + k * 4, none⟩, .int .i64 x43.t.id), (⟨b45, o46 + k * 4 + 1, none⟩, .int .i64 x43.t.ts), (⟨b45, o46 + k * 4 + 2, none⟩, .slice x43.ra x43.t.reads.length x43.rc), (⟨b45, o46 + k * 4 + 3, none⟩, .slice x43.wa x43.t.writes.length x43.wc)]) hK rfl (fun _ => by kernel_rfl) ⟨(hE.get 0 rfl) 0 _ rfl, (hE.get 0 rfl) 1 _ rfl, (hE.get 0 rfl) 2 _ rfl, (hE.get 0 rfl) 3 _ rfl, trivial⟩ rfl rfl rfl ?_
                    clear hK a; intro a hK
                    refine st_new (d := 24) (v := fun g => .pointer (some ⟨g, 0, none⟩)) (cs := #[.int .i64 0, .int .i64 0, .slice none 0 0, .slice none 0 0]) (t := 29) hK hE rfl (fun _ _ => by kernel_rfl) rfl rfl ?_
                    clear hK hE a; intro a g49 w50 _ _ hK hE
                    refine st_store2 0 [(0, .int .i64 x43.t.id), (1, .int .i64 x43.t.ts), (2, .slice x43.ra x43.t.reads.length x43.rc), (3, .slice x43.wa x43.t.writes.length x43.wc)] hK hE rfl rfl (fun _ => by kernel_rfl) rfl rfl rfl ?_
                    clear hE; intro w51 hs_ hk_ hE
                    clear hs_ hk_
                    refine wpList_nil ?_
                    refine xt_norm ?_
                    refine wp_seq ?_
                    refine wp_seq ?_
                    refine wp_region_lit ?_
                    refine st_op (d := 96) (v' := .agg #[.int .i64 two.last, .slice two.sa two.st.length two.sc, .slice two.oa two.op.length two.oc]) (vs := [.int .i64 two.last, .slice two.sa two.st.length two.sc, .slice two.oa two.op.length two.oc]) (obs := [(⟨g3, 0, none⟩, .int .i64 two.last), (⟨g3, 1, none⟩, .slice two.sa two.st.length two.sc), (⟨g3, 2, none⟩, .slice two.oa two.op.length two.oc)]) hK rfl (fun _ => by kernel_rfl) ⟨((hE.blk 12 rfl).cell 0).trans rfl, ((hE.blk 12 rfl).cell 1).trans rfl, ((hE.blk 12 rfl).cell 2).trans rfl, trivial⟩ rfl rfl rfl ?_
                    clear hK a; intro a hK
                    refine st_op (d := 97) (v' := .agg #[.int .i64 M31.last, .slice M31.sa M31.st.length M31.sc, .slice M31.oa M31.op.length M31.oc]) (vs := [.int .i64 M31.last, .slice M31.sa M31.st.length M31.sc, .slice M31.oa M31.op.length M31.oc]) (obs := [(⟨g36, 0, none⟩, .int .i64 M31.last), (⟨g36, 1, none⟩, .slice M31.sa M31.st.length M31.sc), (⟨g36, 2, none⟩, .slice M31.oa M31.op.length M31.oc)]) hK rfl (fun _ => by kernel_rfl) ⟨((hE.blk 3 rfl).cell 0).trans rfl, ((hE.blk 3 rfl).cell 1).trans rfl, ((hE.blk 3 rfl).cell 2).trans rfl, trivial⟩ rfl rfl rfl ?_
                    clear hK a; intro a hK
                    refine st_new (d := 98) (v := fun g => .slice (some ⟨g, 0, none⟩) 2 2) (cs := #[.int .i64 two.last, .slice two.sa two.st.length two.sc, .slice two.oa two.op.length two.oc, .int .i64 M31.last, .slice M31.sa M31.st.length M31.sc, .slice M31.oa M31.op.length M31.oc]) (t := 25) hK hE rfl (fun _ _ => by kernel_rfl) rfl rfl ?_
                    clear hK hE a; intro a g52 w53 _ _ hK hE
                    refine st_op (d := 99) (v' := .int .i64 2) (vs := []) (obs := []) hK rfl (fun _ => by kernel_rfl) trivial rfl rfl rfl ?_
                    clear hK a; intro a hK
                    refine st_op (d := 100) (v' := .int .i64 0) (vs := []) (obs := []) hK rfl (fun _ => by kernel_rfl) trivial rfl rfl rfl ?_
                    clear hK a; intro a hK
                    refine wpList_nil ?_
                    refine xt_norm ?_
                    refine wp_block ?_
                    refine vc_unroll ?_
                    refine vc_round ?_
                    refine wp_seq ?_
                    refine wp_region_lit ?_
                    refine st_op (d := 101) (v' := .bool true) (vs := []) (obs := []) hK rfl (fun _ => by kernel_rfl) trivial rfl rfl rfl ?_
                    clear hK a; intro a hK
                    refine wpList_nil ?_
                    refine xt_norm ?_
                    refine wp_seq ?_
                    refine vc_cond (t := true) hK (fun _ => rfl) ?_
                    rw [if_pos rfl]
                    refine wp_skip ?_
                    refine xt_norm ?_
                    refine wp_seq ?_
                    refine wp_block ?_
                    refine wp_seq ?_
                    refine wp_region_lit ?_
                    refine st_ix (d := 102) (j := 0) (m := 3) hK rfl rfl (fun _ => rfl) (fun _ => rfl) (by omega) (by omega) Try.underlying54 rfl rfl rfl rfl ?_
                    clear hK a; intro a hK
                    refine st_op (d := 103) (v' := .agg #[.int .i64 two.last, .slice two.sa two.st.length two.sc, .slice two.oa two.op.length two.oc]) (vs := [.int .i64 two.last, .slice two.sa two.st.length two.sc, .slice two.oa two.op.length two.oc]) (obs := [(⟨g52, 0, none⟩, .int .i64 two.last), (⟨g52, 1, none⟩, .slice two.sa two.st.length two.sc), (⟨g52, 2, none⟩, .slice two.oa two.op.length two.oc)]) hK rfl (fun _ => by kernel_rfl) ⟨((hE.blk 0 rfl).cell 0).trans rfl, ((hE.blk 0 rfl).cell 1).trans rfl, ((hE.blk 0 rfl).cell 2).trans rfl, trivial⟩ rfl rfl rfl ?_
                    clear hK a; intro a hK
                    refine st_new (d := 26) (v := fun g => .pointer (some ⟨g, 0, none⟩)) (cs := #[.int .i64 0, .slice none 0 0, .slice none 0 0]) (t := 25) hK hE rfl (fun _ _ => by kernel_rfl) rfl rfl ?_
                    clear hK hE a; intro a g54 w55 _ _ hK hE
                    refine st_store2 0 [(0, .int .i64 two.last), (1, .slice two.sa two.st.length two.sc), (2, .slice two.oa two.op.length two.oc)] hK hE rfl rfl (fun _ => by kernel_rfl) rfl rfl rfl ?_
                    clear hE; intro w56 hs_ hk_ hE
                    clear hs_ hk_
                    refine wpList_nil ?_
                    refine xt_norm ?_
                    refine wp_seq ?_
                    refine wp_region_lit ?_
                    refine st_op (d := 105) (v' := .agg #[.int .i64 two.last, .slice two.sa two.st.length two.sc, .slice two.oa two.op.length two.oc]) (vs := [.int .i64 two.last, .slice two.sa two.st.length two.sc, .slice two.oa two.op.length two.oc]) (obs := [(⟨g54, 0, none⟩, .int .i64 two.last), (⟨g54, 1, none⟩, .slice two.sa two.st.length two.sc), (⟨g54, 2, none⟩, .slice two.oa two.op.length two.oc)]) hK rfl (fun _ => by kernel_rfl) ⟨((hE.blk 0 rfl).cell 0).trans rfl, ((hE.blk 0 rfl).cell 1).trans rfl, ((hE.blk 0 rfl).cell 2).trans rfl, trivial⟩ rfl rfl rfl ?_
                    clear hK a; intro a hK
                    refine st_op (d := 106) (v' := .agg #[.int .i64 t.t.id, .int .i64 t.t.ts, .slice t.ra t.t.reads.length t.rc, .slice t.wa t.t.writes.length t.wc]) (vs := [.int .i64 t.t.id, .int .i64 t.t.ts, .slice t.ra t.t.reads.length t.rc, .slice t.wa t.t.writes.length t.wc]) (obs := [(⟨g5, 0, none⟩, .int .i64 t.t.id), (⟨g5, 1, none⟩, .int .i64 t.t.ts), (⟨g5, 2, none⟩, .slice t.ra t.t.reads.length t.rc), (⟨g5, 3, none⟩, .slice t.wa t.t.writes.length t.wc)]) hK rfl (fun _ => by kernel_rfl) ⟨((hE.blk 13 rfl).cell 0).trans rfl, ((hE.blk 13 rfl).cell 1).trans rfl, ((hE.blk 13 rfl).cell 2).trans rfl, ((hE.blk 13 rfl).cell 3).trans rfl, trivial⟩ rfl rfl rfl ?_
                    clear hK a; intro a hK
                    refine st_op (d := 107) (v' := .agg #[.int .i64 (aroundS (IntKind.i64.wrap (at_ + later)) l1 r1).1.1, .int .i64 (aroundS (IntKind.i64.wrap (at_ + later)) l1 r1).1.2]) (vs := [.int .i64 (aroundS (IntKind.i64.wrap (at_ + later)) l1 r1).1.1, .int .i64 (aroundS (IntKind.i64.wrap (at_ + later)) l1 r1).1.2]) (obs := [(⟨g26, 0, none⟩, .int .i64 (aroundS (IntKind.i64.wrap (at_ + later)) l1 r1).1.1), (⟨g26, 1, none⟩, .int .i64 (aroundS (IntKind.i64.wrap (at_ + later)) l1 r1).1.2)]) hK rfl (fun _ => by kernel_rfl) ⟨((hE.blk 8 rfl).cell 0).trans rfl, ((hE.blk 8 rfl).cell 1).trans rfl, trivial⟩ rfl rfl rfl ?_
                    clear hK a; intro a hK
                    refine st_call (d := 108) (f := 13) (args := #[.agg #[.int .i64 two.last, .slice two.sa two.st.length two.sc, .slice two.oa two.op.length two.oc], .agg #[.int .i64 t.t.id, .int .i64 t.t.ts, .slice t.ra t.t.reads.length t.rc, .slice t.wa t.t.writes.length t.wc], .agg #[.int .i64 (aroundS (IntKind.i64.wrap (at_ + later)) l1 r1).1.1, .int .i64 (aroundS (IntKind.i64.wrap (at_ + later)) l1 r1).1.2]]) hK rfl (fun _ => by kernel_rfl) rfl rfl (stamp_anyF two t (aroundS (IntKind.i64.wrap (at_ + later)) l1 r1).1.1 (aroundS (IntKind.i64.wrap (at_ + later)) l1 r1).1.2 _ hLS2 hsmt (hE.get 17 rfl) (hE.get 16 rfl)) ?_
                    rintro e w59 ⟨M57, v58, rfl, hM57, hv57, hl57, hx57, hfr57, hb⟩
                    refine ⟨_, rfl, ?_⟩
                    clear hK a; intro a hK
                    replace hE := hE.call hb
                    clear hb
                    replace hE := hE.dat (p := fun W => LdW W M57) (fun W hW => LdW.then_ hl57 hW)
                    replace hE := hE.dat (p := fun W => TxW W v58) (fun W hW => TxW.then_ hx57 hW)
                    refine st_op (d := 104) (v' := .tuple #[.agg #[.int .i64 M57.last, .slice M57.sa M57.st.length M57.sc, .slice M57.oa M57.op.length M57.oc], .agg #[.int .i64 v58.t.id, .int .i64 v58.t.ts, .slice v58.ra v58.t.reads.length v58.rc, .slice v58.wa v58.t.writes.length v58.wc], .int .i64 (stampS two.d t.t (aroundS (IntKind.i64.wrap (at_ + later)) l1 r1).1.1 (aroundS (IntKind.i64.wrap (at_ + later)) l1 r1).1.2).2.2]) (vs := []) (obs := []) hK rfl (fun _ => by kernel_rfl) trivial rfl rfl rfl ?_
                    clear hK a; intro a hK
                    refine st_op (d := 109) (v' := .agg #[.int .i64 M57.last, .slice M57.sa M57.st.length M57.sc, .slice M57.oa M57.op.length M57.oc]) (vs := []) (obs := []) hK rfl (fun _ => by kernel_rfl) trivial rfl rfl rfl ?_
                    clear hK a; intro a hK
                    refine st_op (d := 110) (v' := .agg #[.int .i64 v58.t.id, .int .i64 v58.t.ts, .slice v58.ra v58.t.reads.length v58.rc, .slice v58.wa v58.t.writes.length v58.wc]) (vs := []) (obs := []) hK rfl (fun _ => by kernel_rfl) trivial rfl rfl rfl ?_
                    clear hK a; intro a hK
                    refine st_op (d := 111) (v' := .int .i64 (stampS two.d t.t (aroundS (IntKind.i64.wrap (at_ + later)) l1 r1).1.1 (aroundS (IntKind.i64.wrap (at_ + later)) l1 r1).1.2).2.2) (vs := []) (obs := []) hK rfl (fun _ => by kernel_rfl) trivial rfl rfl rfl ?_
                    clear hK a; intro a hK
                    refine st_new (d := 27) (v := fun g => .pointer (some ⟨g, 0, none⟩)) (cs := #[.int .i64 0, .slice none 0 0, .slice none 0 0]) (t := 25) hK hE rfl (fun _ _ => by kernel_rfl) rfl rfl ?_
                    clear hK hE a; intro a g60 w61 _ _ hK hE
                    refine st_new (d := 28) (v := fun g => .pointer (some ⟨g, 0, none⟩)) (cs := #[.int .i64 0, .int .i64 0, .slice none 0 0, .slice none 0 0]) (t := 29) hK hE rfl (fun _ _ => by kernel_rfl) rfl rfl ?_
                    clear hK hE a; intro a g62 w63 _ _ hK hE
                    refine st_store2 1 [(0, .int .i64 M57.last), (1, .slice M57.sa M57.st.length M57.sc), (2, .slice M57.oa M57.op.length M57.oc)] hK hE rfl rfl (fun _ => by kernel_rfl) rfl rfl rfl ?_
                    clear hE; intro w64 hs_ hk_ hE
                    clear hs_ hk_
                    refine st_store2 0 [(0, .int .i64 v58.t.id), (1, .int .i64 v58.t.ts), (2, .slice v58.ra v58.t.reads.length v58.rc), (3, .slice v58.wa v58.t.writes.length v58.wc)] hK hE rfl rfl (fun _ => by kernel_rfl) rfl rfl rfl ?_
                    clear hE; intro w65 hs_ hk_ hE
                    clear hs_ hk_
                    refine st_op (d := 29) (v' := .int .i64 (stampS two.d t.t (aroundS (IntKind.i64.wrap (at_ + later)) l1 r1).1.1 (aroundS (IntKind.i64.wrap (at_ + later)) l1 r1).1.2).2.2) (vs := []) (obs := []) hK rfl (fun _ => by kernel_rfl) trivial rfl rfl rfl ?_
                    clear hK a; intro a hK
                    refine wpList_nil ?_
                    replace hK := hK.weak (K' := [(3, .int .i64 at_), (8, .pointer (some ⟨g3, 0, none⟩)), (9, .pointer (some ⟨g5, 0, none⟩)), (14, .bool false), (18, .pointer (some ⟨g26, 0, none⟩)), (20, .pointer (some ⟨g36, 0, none⟩)), (90, .slice A32 m34.length c33), (91, .int .i64 ((m34.length : Nat) : Int)), (92, .int .i64 ((k : Nat) : Int)), (15, .bool true), (93, .bool true), (94, .pointer (some ⟨b45, o46 + k * 4, none⟩)), (95, .agg #[.int .i64 x43.t.id, .int .i64 x43.t.ts, .slice x43.ra x43.t.reads.length x43.rc, .slice x43.wa x43.t.writes.length x43.wc]), (24, .pointer (some ⟨g49, 0, none⟩)), (96, .agg #[.int .i64 two.last, .slice two.sa two.st.length two.sc, .slice two.oa two.op.length two.oc]), (97, .agg #[.int .i64 M31.last, .slice M31.sa M31.st.length M31.sc, .slice M31.oa M31.op.length M31.oc]), (98, .slice (some ⟨g52, 0, none⟩) 2 2), (99, .int .i64 2), (100, .int .i64 0), (101, .bool true), (102, .pointer (some ⟨g52, 0, none⟩)), (103, .agg #[.int .i64 two.last, .slice two.sa two.st.length two.sc, .slice two.oa two.op.length two.oc]), (26, .pointer (some ⟨g54, 0, none⟩)), (105, .agg #[.int .i64 two.last, .slice two.sa two.st.length two.sc, .slice two.oa two.op.length two.oc]), (106, .agg #[.int .i64 t.t.id, .int .i64 t.t.ts, .slice t.ra t.t.reads.length t.rc, .slice t.wa t.t.writes.length t.wc]), (107, .agg #[.int .i64 (aroundS (IntKind.i64.wrap (at_ + later)) l1 r1).1.1, .int .i64 (aroundS (IntKind.i64.wrap (at_ + later)) l1 r1).1.2]), (108, .tuple #[.agg #[.int .i64 M57.last, .slice M57.sa M57.st.length M57.sc, .slice M57.oa M57.op.length M57.oc], .agg #[.int .i64 v58.t.id, .int .i64 v58.t.ts, .slice v58.ra v58.t.reads.length v58.rc, .slice v58.wa v58.t.writes.length v58.wc], .int .i64 (stampS two.d t.t (aroundS (IntKind.i64.wrap (at_ + later)) l1 r1).1.1 (aroundS (IntKind.i64.wrap (at_ + later)) l1 r1).1.2).2.2]), (104, .tuple #[.agg #[.int .i64 M57.last, .slice M57.sa M57.st.length M57.sc, .slice M57.oa M57.op.length M57.oc], .agg #[.int .i64 v58.t.id, .int .i64 v58.t.ts, .slice v58.ra v58.t.reads.length v58.rc, .slice v58.wa v58.t.writes.length v58.wc], .int .i64 (stampS two.d t.t (aroundS (IntKind.i64.wrap (at_ + later)) l1 r1).1.1 (aroundS (IntKind.i64.wrap (at_ + later)) l1 r1).1.2).2.2]), (109, .agg #[.int .i64 M57.last, .slice M57.sa M57.st.length M57.sc, .slice M57.oa M57.op.length M57.oc]), (110, .agg #[.int .i64 v58.t.id, .int .i64 v58.t.ts, .slice v58.ra v58.t.reads.length v58.rc, .slice v58.wa v58.t.writes.length v58.wc]), (111, .int .i64 (stampS two.d t.t (aroundS (IntKind.i64.wrap (at_ + later)) l1 r1).1.1 (aroundS (IntKind.i64.wrap (at_ + later)) l1 r1).1.2).2.2), (27, .pointer (some ⟨g60, 0, none⟩)), (28, .pointer (some ⟨g62, 0, none⟩)), (29, .int .i64 (stampS two.d t.t (aroundS (IntKind.i64.wrap (at_ + later)) l1 r1).1.1 (aroundS (IntKind.i64.wrap (at_ + later)) l1 r1).1.2).2.2)]) ⟨rfl, rfl, rfl, rfl, rfl, rfl, rfl, rfl, rfl, rfl, rfl, rfl, rfl, rfl, rfl, rfl, rfl, rfl, rfl, rfl, rfl, rfl, rfl, rfl, rfl, rfl, rfl, rfl, rfl, rfl, rfl, rfl, rfl, rfl, trivial⟩
                    refine xt_norm ?_
                    refine wp_region_lit ?_
                    refine st_op (d := 112) (v' := .bool true) (vs := []) (obs := []) hK rfl (fun _ => by kernel_rfl) trivial rfl rfl rfl ?_
                    clear hK a; intro a hK
                    refine st_op (d := 113) (v' := .bool true) (vs := []) (obs := []) hK rfl (fun _ => by kernel_rfl) trivial rfl rfl rfl ?_
                    clear hK a; intro a hK
                    refine st_op (d := 114) (v' := .int .i64 (stampS two.d t.t (aroundS (IntKind.i64.wrap (at_ + later)) l1 r1).1.1 (aroundS (IntKind.i64.wrap (at_ + later)) l1 r1).1.2).2.2) (vs := []) (obs := []) hK rfl (fun _ => by kernel_rfl) trivial rfl rfl rfl ?_
                    clear hK a; intro a hK
                    refine st_op (d := 115) (v' := .bool ((stampS two.d t.t (aroundS (IntKind.i64.wrap (at_ + later)) l1 r1).1.1 (aroundS (IntKind.i64.wrap (at_ + later)) l1 r1).1.2).2.2 != 0)) (v := .bool (!((stampS two.d t.t (aroundS (IntKind.i64.wrap (at_ + later)) l1 r1).1.1 (aroundS (IntKind.i64.wrap (at_ + later)) l1 r1).1.2).2.2 == 0))) (vs := []) (obs := []) hK rfl (fun _ => by kernel_rfl) trivial rfl rfl rfl ?_
                    clear hK a; intro a hK
                    refine st_op (d := 116) (v' := .bool (!((stampS two.d t.t (aroundS (IntKind.i64.wrap (at_ + later)) l1 r1).1.1 (aroundS (IntKind.i64.wrap (at_ + later)) l1 r1).1.2).2.2 == 0))) (vs := []) (obs := []) hK rfl (fun _ => by kernel_rfl) trivial rfl rfl rfl ?_
                    clear hK a; intro a hK
                    rcases Bool.eq_false_or_eq_true (((stampS two.d t.t (aroundS (IntKind.i64.wrap (at_ + later)) l1 r1).1.1 (aroundS (IntKind.i64.wrap (at_ + later)) l1 r1).1.2).2.2 == 0)) with hc66 | hc66
                    · have hc66p := eq_of_beq hc66
                      have hri := rises_law hc66p
                      replace hK := hK.sub (d := 116) (v' := .bool false) rfl (congrArg (fun b => Value.bool !b) hc66)
                      refine st_op (d := 117) (v' := .pointer (some ⟨g49, 1, none⟩)) (vs := []) (obs := []) hK rfl (fun _ => by kernel_rfl) trivial rfl rfl rfl ?_
                      clear hK a; intro a hK
                      refine st_op (d := 118) (v' := .int .i64 x43.t.ts) (vs := [.int .i64 x43.t.ts]) (obs := [(⟨g49, 1, none⟩, .int .i64 x43.t.ts)]) hK rfl (fun _ => by kernel_rfl) ⟨((hE.blk 6 rfl).cell 1).trans rfl, trivial⟩ rfl rfl rfl ?_
                      clear hK a; intro a hK
                      refine st_op (d := 119) (v' := .pointer (some ⟨g62, 1, none⟩)) (vs := []) (obs := []) hK rfl (fun _ => by kernel_rfl) trivial rfl rfl rfl ?_
                      clear hK a; intro a hK
                      refine st_op (d := 120) (v' := .int .i64 v58.t.ts) (vs := [.int .i64 v58.t.ts]) (obs := [(⟨g62, 1, none⟩, .int .i64 v58.t.ts)]) hK rfl (fun _ => by kernel_rfl) ⟨((hE.blk 0 rfl).cell 1).trans rfl, trivial⟩ rfl rfl rfl ?_
                      clear hK a; intro a hK
                      refine st_op (d := 121) (v' := .bool (decide (x43.t.ts < v58.t.ts))) (vs := []) (obs := []) hK rfl (fun _ => by kernel_rfl) trivial rfl rfl rfl ?_
                      clear hK a; intro a hK
                      refine st_op (d := 122) (v' := .bool (decide (x43.t.ts < v58.t.ts))) (vs := []) (obs := []) hK rfl (fun _ => by kernel_rfl) trivial rfl rfl rfl ?_
                      clear hK a; intro a hK
                      refine st_op (d := 123) (v' := .bool (decide (x43.t.ts < v58.t.ts))) (vs := []) (obs := []) hK rfl (fun _ => by kernel_rfl) trivial rfl rfl rfl ?_
                      clear hK a; intro a hK
                      refine st_op (d := 15) (v' := .bool (decide (x43.t.ts < v58.t.ts))) (vs := []) (obs := []) hK rfl (fun _ => by kernel_rfl) trivial rfl rfl rfl ?_
                      clear hK a; intro a hK
                      refine wpList_nil ?_
                      replace hK := hK.weak (K' := [(3, .int .i64 at_), (8, .pointer (some ⟨g3, 0, none⟩)), (9, .pointer (some ⟨g5, 0, none⟩)), (14, .bool false), (18, .pointer (some ⟨g26, 0, none⟩)), (20, .pointer (some ⟨g36, 0, none⟩)), (90, .slice A32 m34.length c33), (91, .int .i64 ((m34.length : Nat) : Int)), (92, .int .i64 ((k : Nat) : Int)), (15, .bool (decide (x43.t.ts < v58.t.ts))), (93, .bool true), (94, .pointer (some ⟨b45, o46 + k * 4, none⟩)), (95, .agg #[.int .i64 x43.t.id, .int .i64 x43.t.ts, .slice x43.ra x43.t.reads.length x43.rc, .slice x43.wa x43.t.writes.length x43.wc]), (24, .pointer (some ⟨g49, 0, none⟩)), (96, .agg #[.int .i64 two.last, .slice two.sa two.st.length two.sc, .slice two.oa two.op.length two.oc]), (97, .agg #[.int .i64 M31.last, .slice M31.sa M31.st.length M31.sc, .slice M31.oa M31.op.length M31.oc]), (98, .slice (some ⟨g52, 0, none⟩) 2 2), (99, .int .i64 2), (100, .int .i64 0), (101, .bool true), (102, .pointer (some ⟨g52, 0, none⟩)), (103, .agg #[.int .i64 two.last, .slice two.sa two.st.length two.sc, .slice two.oa two.op.length two.oc]), (26, .pointer (some ⟨g54, 0, none⟩)), (105, .agg #[.int .i64 two.last, .slice two.sa two.st.length two.sc, .slice two.oa two.op.length two.oc]), (106, .agg #[.int .i64 t.t.id, .int .i64 t.t.ts, .slice t.ra t.t.reads.length t.rc, .slice t.wa t.t.writes.length t.wc]), (107, .agg #[.int .i64 (aroundS (IntKind.i64.wrap (at_ + later)) l1 r1).1.1, .int .i64 (aroundS (IntKind.i64.wrap (at_ + later)) l1 r1).1.2]), (108, .tuple #[.agg #[.int .i64 M57.last, .slice M57.sa M57.st.length M57.sc, .slice M57.oa M57.op.length M57.oc], .agg #[.int .i64 v58.t.id, .int .i64 v58.t.ts, .slice v58.ra v58.t.reads.length v58.rc, .slice v58.wa v58.t.writes.length v58.wc], .int .i64 (stampS two.d t.t (aroundS (IntKind.i64.wrap (at_ + later)) l1 r1).1.1 (aroundS (IntKind.i64.wrap (at_ + later)) l1 r1).1.2).2.2]), (104, .tuple #[.agg #[.int .i64 M57.last, .slice M57.sa M57.st.length M57.sc, .slice M57.oa M57.op.length M57.oc], .agg #[.int .i64 v58.t.id, .int .i64 v58.t.ts, .slice v58.ra v58.t.reads.length v58.rc, .slice v58.wa v58.t.writes.length v58.wc], .int .i64 (stampS two.d t.t (aroundS (IntKind.i64.wrap (at_ + later)) l1 r1).1.1 (aroundS (IntKind.i64.wrap (at_ + later)) l1 r1).1.2).2.2]), (109, .agg #[.int .i64 M57.last, .slice M57.sa M57.st.length M57.sc, .slice M57.oa M57.op.length M57.oc]), (110, .agg #[.int .i64 v58.t.id, .int .i64 v58.t.ts, .slice v58.ra v58.t.reads.length v58.rc, .slice v58.wa v58.t.writes.length v58.wc]), (111, .int .i64 (stampS two.d t.t (aroundS (IntKind.i64.wrap (at_ + later)) l1 r1).1.1 (aroundS (IntKind.i64.wrap (at_ + later)) l1 r1).1.2).2.2), (27, .pointer (some ⟨g60, 0, none⟩)), (28, .pointer (some ⟨g62, 0, none⟩)), (29, .int .i64 (stampS two.d t.t (aroundS (IntKind.i64.wrap (at_ + later)) l1 r1).1.1 (aroundS (IntKind.i64.wrap (at_ + later)) l1 r1).1.2).2.2), (112, .bool true), (113, .bool true), (114, .int .i64 (stampS two.d t.t (aroundS (IntKind.i64.wrap (at_ + later)) l1 r1).1.1 (aroundS (IntKind.i64.wrap (at_ + later)) l1 r1).1.2).2.2), (115, .bool (!((stampS two.d t.t (aroundS (IntKind.i64.wrap (at_ + later)) l1 r1).1.1 (aroundS (IntKind.i64.wrap (at_ + later)) l1 r1).1.2).2.2 == 0))), (116, .bool false), (117, .pointer (some ⟨g49, 1, none⟩)), (118, .int .i64 x43.t.ts), (119, .pointer (some ⟨g62, 1, none⟩)), (120, .int .i64 v58.t.ts), (121, .bool (decide (x43.t.ts < v58.t.ts))), (122, .bool (decide (x43.t.ts < v58.t.ts))), (123, .bool (decide (x43.t.ts < v58.t.ts)))]) ⟨rfl, rfl, rfl, rfl, rfl, rfl, rfl, rfl, rfl, rfl, rfl, rfl, rfl, rfl, rfl, rfl, rfl, rfl, rfl, rfl, rfl, rfl, rfl, rfl, rfl, rfl, rfl, rfl, rfl, rfl, rfl, rfl, rfl, rfl, rfl, rfl, rfl, rfl, rfl, rfl, rfl, rfl, rfl, rfl, rfl, rfl, trivial⟩
                      refine xb_norm ?_
                      refine xt_norm ?_
                      refine wp_region_lit ?_
                      refine st_op (d := 124) (v' := .int .i64 1) (vs := []) (obs := []) hK rfl (fun _ => by kernel_rfl) trivial rfl rfl rfl ?_
                      clear hK a; intro a hK
                      refine st_op (d := 100) (v' := .int .i64 1) (vs := []) (obs := []) hK rfl (fun _ => by kernel_rfl) trivial rfl rfl rfl ?_
                      clear hK a; intro a hK
                      refine wpList_nil ?_
                      replace hK := hK.weak (K' := [(3, .int .i64 at_), (8, .pointer (some ⟨g3, 0, none⟩)), (9, .pointer (some ⟨g5, 0, none⟩)), (14, .bool false), (18, .pointer (some ⟨g26, 0, none⟩)), (20, .pointer (some ⟨g36, 0, none⟩)), (90, .slice A32 m34.length c33), (91, .int .i64 ((m34.length : Nat) : Int)), (92, .int .i64 ((k : Nat) : Int)), (15, .bool (decide (x43.t.ts < v58.t.ts))), (93, .bool true), (94, .pointer (some ⟨b45, o46 + k * 4, none⟩)), (95, .agg #[.int .i64 x43.t.id, .int .i64 x43.t.ts, .slice x43.ra x43.t.reads.length x43.rc, .slice x43.wa x43.t.writes.length x43.wc]), (24, .pointer (some ⟨g49, 0, none⟩)), (96, .agg #[.int .i64 two.last, .slice two.sa two.st.length two.sc, .slice two.oa two.op.length two.oc]), (97, .agg #[.int .i64 M31.last, .slice M31.sa M31.st.length M31.sc, .slice M31.oa M31.op.length M31.oc]), (98, .slice (some ⟨g52, 0, none⟩) 2 2), (99, .int .i64 2), (100, .int .i64 1), (101, .bool true), (102, .pointer (some ⟨g52, 0, none⟩)), (103, .agg #[.int .i64 two.last, .slice two.sa two.st.length two.sc, .slice two.oa two.op.length two.oc]), (26, .pointer (some ⟨g54, 0, none⟩)), (105, .agg #[.int .i64 two.last, .slice two.sa two.st.length two.sc, .slice two.oa two.op.length two.oc]), (106, .agg #[.int .i64 t.t.id, .int .i64 t.t.ts, .slice t.ra t.t.reads.length t.rc, .slice t.wa t.t.writes.length t.wc]), (107, .agg #[.int .i64 (aroundS (IntKind.i64.wrap (at_ + later)) l1 r1).1.1, .int .i64 (aroundS (IntKind.i64.wrap (at_ + later)) l1 r1).1.2]), (108, .tuple #[.agg #[.int .i64 M57.last, .slice M57.sa M57.st.length M57.sc, .slice M57.oa M57.op.length M57.oc], .agg #[.int .i64 v58.t.id, .int .i64 v58.t.ts, .slice v58.ra v58.t.reads.length v58.rc, .slice v58.wa v58.t.writes.length v58.wc], .int .i64 (stampS two.d t.t (aroundS (IntKind.i64.wrap (at_ + later)) l1 r1).1.1 (aroundS (IntKind.i64.wrap (at_ + later)) l1 r1).1.2).2.2]), (104, .tuple #[.agg #[.int .i64 M57.last, .slice M57.sa M57.st.length M57.sc, .slice M57.oa M57.op.length M57.oc], .agg #[.int .i64 v58.t.id, .int .i64 v58.t.ts, .slice v58.ra v58.t.reads.length v58.rc, .slice v58.wa v58.t.writes.length v58.wc], .int .i64 (stampS two.d t.t (aroundS (IntKind.i64.wrap (at_ + later)) l1 r1).1.1 (aroundS (IntKind.i64.wrap (at_ + later)) l1 r1).1.2).2.2]), (109, .agg #[.int .i64 M57.last, .slice M57.sa M57.st.length M57.sc, .slice M57.oa M57.op.length M57.oc]), (110, .agg #[.int .i64 v58.t.id, .int .i64 v58.t.ts, .slice v58.ra v58.t.reads.length v58.rc, .slice v58.wa v58.t.writes.length v58.wc]), (111, .int .i64 (stampS two.d t.t (aroundS (IntKind.i64.wrap (at_ + later)) l1 r1).1.1 (aroundS (IntKind.i64.wrap (at_ + later)) l1 r1).1.2).2.2), (27, .pointer (some ⟨g60, 0, none⟩)), (28, .pointer (some ⟨g62, 0, none⟩)), (29, .int .i64 (stampS two.d t.t (aroundS (IntKind.i64.wrap (at_ + later)) l1 r1).1.1 (aroundS (IntKind.i64.wrap (at_ + later)) l1 r1).1.2).2.2), (112, .bool true), (113, .bool true), (114, .int .i64 (stampS two.d t.t (aroundS (IntKind.i64.wrap (at_ + later)) l1 r1).1.1 (aroundS (IntKind.i64.wrap (at_ + later)) l1 r1).1.2).2.2), (115, .bool (!((stampS two.d t.t (aroundS (IntKind.i64.wrap (at_ + later)) l1 r1).1.1 (aroundS (IntKind.i64.wrap (at_ + later)) l1 r1).1.2).2.2 == 0))), (116, .bool false), (117, .pointer (some ⟨g49, 1, none⟩)), (118, .int .i64 x43.t.ts), (119, .pointer (some ⟨g62, 1, none⟩)), (120, .int .i64 v58.t.ts), (121, .bool (decide (x43.t.ts < v58.t.ts))), (122, .bool (decide (x43.t.ts < v58.t.ts))), (123, .bool (decide (x43.t.ts < v58.t.ts))), (124, .int .i64 1)]) ⟨rfl, rfl, rfl, rfl, rfl, rfl, rfl, rfl, rfl, rfl, rfl, rfl, rfl, rfl, rfl, rfl, rfl, rfl, rfl, rfl, rfl, rfl, rfl, rfl, rfl, rfl, rfl, rfl, rfl, rfl, rfl, rfl, rfl, rfl, rfl, rfl, rfl, rfl, rfl, rfl, rfl, rfl, rfl, rfl, rfl, rfl, rfl, trivial⟩
                      refine xt_norm ?_
                      refine vc_round ?_
                      refine wp_seq ?_
                      refine wp_region_lit ?_
                      refine st_op (d := 101) (v' := .bool true) (vs := []) (obs := []) hK rfl (fun _ => by kernel_rfl) trivial rfl rfl rfl ?_
                      clear hK a; intro a hK
                      refine wpList_nil ?_
                      replace hK := hK.weak (K' := [(3, .int .i64 at_), (8, .pointer (some ⟨g3, 0, none⟩)), (9, .pointer (some ⟨g5, 0, none⟩)), (14, .bool false), (18, .pointer (some ⟨g26, 0, none⟩)), (20, .pointer (some ⟨g36, 0, none⟩)), (90, .slice A32 m34.length c33), (91, .int .i64 ((m34.length : Nat) : Int)), (92, .int .i64 ((k : Nat) : Int)), (15, .bool (decide (x43.t.ts < v58.t.ts))), (93, .bool true), (94, .pointer (some ⟨b45, o46 + k * 4, none⟩)), (95, .agg #[.int .i64 x43.t.id, .int .i64 x43.t.ts, .slice x43.ra x43.t.reads.length x43.rc, .slice x43.wa x43.t.writes.length x43.wc]), (24, .pointer (some ⟨g49, 0, none⟩)), (96, .agg #[.int .i64 two.last, .slice two.sa two.st.length two.sc, .slice two.oa two.op.length two.oc]), (97, .agg #[.int .i64 M31.last, .slice M31.sa M31.st.length M31.sc, .slice M31.oa M31.op.length M31.oc]), (98, .slice (some ⟨g52, 0, none⟩) 2 2), (99, .int .i64 2), (100, .int .i64 1), (101, .bool true), (102, .pointer (some ⟨g52, 0, none⟩)), (103, .agg #[.int .i64 two.last, .slice two.sa two.st.length two.sc, .slice two.oa two.op.length two.oc]), (26, .pointer (some ⟨g54, 0, none⟩)), (105, .agg #[.int .i64 two.last, .slice two.sa two.st.length two.sc, .slice two.oa two.op.length two.oc]), (106, .agg #[.int .i64 t.t.id, .int .i64 t.t.ts, .slice t.ra t.t.reads.length t.rc, .slice t.wa t.t.writes.length t.wc]), (107, .agg #[.int .i64 (aroundS (IntKind.i64.wrap (at_ + later)) l1 r1).1.1, .int .i64 (aroundS (IntKind.i64.wrap (at_ + later)) l1 r1).1.2]), (108, .tuple #[.agg #[.int .i64 M57.last, .slice M57.sa M57.st.length M57.sc, .slice M57.oa M57.op.length M57.oc], .agg #[.int .i64 v58.t.id, .int .i64 v58.t.ts, .slice v58.ra v58.t.reads.length v58.rc, .slice v58.wa v58.t.writes.length v58.wc], .int .i64 (stampS two.d t.t (aroundS (IntKind.i64.wrap (at_ + later)) l1 r1).1.1 (aroundS (IntKind.i64.wrap (at_ + later)) l1 r1).1.2).2.2]), (104, .tuple #[.agg #[.int .i64 M57.last, .slice M57.sa M57.st.length M57.sc, .slice M57.oa M57.op.length M57.oc], .agg #[.int .i64 v58.t.id, .int .i64 v58.t.ts, .slice v58.ra v58.t.reads.length v58.rc, .slice v58.wa v58.t.writes.length v58.wc], .int .i64 (stampS two.d t.t (aroundS (IntKind.i64.wrap (at_ + later)) l1 r1).1.1 (aroundS (IntKind.i64.wrap (at_ + later)) l1 r1).1.2).2.2]), (109, .agg #[.int .i64 M57.last, .slice M57.sa M57.st.length M57.sc, .slice M57.oa M57.op.length M57.oc]), (110, .agg #[.int .i64 v58.t.id, .int .i64 v58.t.ts, .slice v58.ra v58.t.reads.length v58.rc, .slice v58.wa v58.t.writes.length v58.wc]), (111, .int .i64 (stampS two.d t.t (aroundS (IntKind.i64.wrap (at_ + later)) l1 r1).1.1 (aroundS (IntKind.i64.wrap (at_ + later)) l1 r1).1.2).2.2), (27, .pointer (some ⟨g60, 0, none⟩)), (28, .pointer (some ⟨g62, 0, none⟩)), (29, .int .i64 (stampS two.d t.t (aroundS (IntKind.i64.wrap (at_ + later)) l1 r1).1.1 (aroundS (IntKind.i64.wrap (at_ + later)) l1 r1).1.2).2.2), (112, .bool true), (113, .bool true), (114, .int .i64 (stampS two.d t.t (aroundS (IntKind.i64.wrap (at_ + later)) l1 r1).1.1 (aroundS (IntKind.i64.wrap (at_ + later)) l1 r1).1.2).2.2), (115, .bool (!((stampS two.d t.t (aroundS (IntKind.i64.wrap (at_ + later)) l1 r1).1.1 (aroundS (IntKind.i64.wrap (at_ + later)) l1 r1).1.2).2.2 == 0))), (116, .bool false), (117, .pointer (some ⟨g49, 1, none⟩)), (118, .int .i64 x43.t.ts), (119, .pointer (some ⟨g62, 1, none⟩)), (120, .int .i64 v58.t.ts), (121, .bool (decide (x43.t.ts < v58.t.ts))), (122, .bool (decide (x43.t.ts < v58.t.ts))), (123, .bool (decide (x43.t.ts < v58.t.ts))), (124, .int .i64 1)]) ⟨rfl, rfl, rfl, rfl, rfl, rfl, rfl, rfl, rfl, rfl, rfl, rfl, rfl, rfl, rfl, rfl, rfl, rfl, rfl, rfl, rfl, rfl, rfl, rfl, rfl, rfl, rfl, rfl, rfl, rfl, rfl, rfl, rfl, rfl, rfl, rfl, rfl, rfl, rfl, rfl, rfl, rfl, rfl, rfl, rfl, rfl, rfl, trivial⟩
                      refine xt_norm ?_
                      refine wp_seq ?_
                      refine vc_cond (t := true) hK (fun _ => rfl) ?_
                      rw [if_pos rfl]
                      refine wp_skip ?_
                      refine xt_norm ?_
                      refine wp_seq ?_
                      refine wp_block ?_
                      refine wp_seq ?_
                      refine wp_region_lit ?_
                      refine st_ix (d := 102) (j := 1) (m := 3) hK rfl rfl (fun _ => rfl) (fun _ => rfl) (by omega) (by omega) Try.underlying54 rfl rfl rfl rfl ?_
                      clear hK a; intro a hK
                      refine st_op (d := 103) (v' := .agg #[.int .i64 M31.last, .slice M31.sa M31.st.length M31.sc, .slice M31.oa M31.op.length M31.oc]) (vs := [.int .i64 M31.last, .slice M31.sa M31.st.length M31.sc, .slice M31.oa M31.op.length M31.oc]) (obs := [(⟨g52, 3, none⟩, .int .i64 M31.last), (⟨g52, 4, none⟩, .slice M31.sa M31.st.length M31.sc), (⟨g52, 5, none⟩, .slice M31.oa M31.op.length M31.oc)]) hK rfl (fun _ => by kernel_rfl) ⟨((hE.blk 5 rfl).cell 3).trans rfl, ((hE.blk 5 rfl).cell 4).trans rfl, ((hE.blk 5 rfl).cell 5).trans rfl, trivial⟩ rfl rfl rfl ?_
                      clear hK a; intro a hK
                      refine st_new (d := 26) (v := fun g => .pointer (some ⟨g, 0, none⟩)) (cs := #[.int .i64 0, .slice none 0 0, .slice none 0 0]) (t := 25) hK hE rfl (fun _ _ => by kernel_rfl) rfl rfl ?_
                      clear hK hE a; intro a g67 w68 _ _ hK hE
                      refine st_store2 0 [(0, .int .i64 M31.last), (1, .slice M31.sa M31.st.length M31.sc), (2, .slice M31.oa M31.op.length M31.oc)] hK hE rfl rfl (fun _ => by kernel_rfl) rfl rfl rfl ?_
                      clear hE; intro w69 hs_ hk_ hE
                      clear hs_ hk_
                      refine wpList_nil ?_
                      replace hK := hK.weak (K' := [(3, .int .i64 at_), (8, .pointer (some ⟨g3, 0, none⟩)), (9, .pointer (some ⟨g5, 0, none⟩)), (14, .bool false), (18, .pointer (some ⟨g26, 0, none⟩)), (20, .pointer (some ⟨g36, 0, none⟩)), (90, .slice A32 m34.length c33), (91, .int .i64 ((m34.length : Nat) : Int)), (92, .int .i64 ((k : Nat) : Int)), (15, .bool (decide (x43.t.ts < v58.t.ts))), (93, .bool true), (94, .pointer (some ⟨b45, o46 + k * 4, none⟩)), (95, .agg #[.int .i64 x43.t.id, .int .i64 x43.t.ts, .slice x43.ra x43.t.reads.length x43.rc, .slice x43.wa x43.t.writes.length x43.wc]), (24, .pointer (some ⟨g49, 0, none⟩)), (96, .agg #[.int .i64 two.last, .slice two.sa two.st.length two.sc, .slice two.oa two.op.length two.oc]), (97, .agg #[.int .i64 M31.last, .slice M31.sa M31.st.length M31.sc, .slice M31.oa M31.op.length M31.oc]), (98, .slice (some ⟨g52, 0, none⟩) 2 2), (99, .int .i64 2), (100, .int .i64 1), (101, .bool true), (102, .pointer (some ⟨g52, 3, none⟩)), (103, .agg #[.int .i64 M31.last, .slice M31.sa M31.st.length M31.sc, .slice M31.oa M31.op.length M31.oc]), (26, .pointer (some ⟨g67, 0, none⟩)), (105, .agg #[.int .i64 two.last, .slice two.sa two.st.length two.sc, .slice two.oa two.op.length two.oc]), (106, .agg #[.int .i64 t.t.id, .int .i64 t.t.ts, .slice t.ra t.t.reads.length t.rc, .slice t.wa t.t.writes.length t.wc]), (107, .agg #[.int .i64 (aroundS (IntKind.i64.wrap (at_ + later)) l1 r1).1.1, .int .i64 (aroundS (IntKind.i64.wrap (at_ + later)) l1 r1).1.2]), (108, .tuple #[.agg #[.int .i64 M57.last, .slice M57.sa M57.st.length M57.sc, .slice M57.oa M57.op.length M57.oc], .agg #[.int .i64 v58.t.id, .int .i64 v58.t.ts, .slice v58.ra v58.t.reads.length v58.rc, .slice v58.wa v58.t.writes.length v58.wc], .int .i64 (stampS two.d t.t (aroundS (IntKind.i64.wrap (at_ + later)) l1 r1).1.1 (aroundS (IntKind.i64.wrap (at_ + later)) l1 r1).1.2).2.2]), (104, .tuple #[.agg #[.int .i64 M57.last, .slice M57.sa M57.st.length M57.sc, .slice M57.oa M57.op.length M57.oc], .agg #[.int .i64 v58.t.id, .int .i64 v58.t.ts, .slice v58.ra v58.t.reads.length v58.rc, .slice v58.wa v58.t.writes.length v58.wc], .int .i64 (stampS two.d t.t (aroundS (IntKind.i64.wrap (at_ + later)) l1 r1).1.1 (aroundS (IntKind.i64.wrap (at_ + later)) l1 r1).1.2).2.2]), (109, .agg #[.int .i64 M57.last, .slice M57.sa M57.st.length M57.sc, .slice M57.oa M57.op.length M57.oc]), (110, .agg #[.int .i64 v58.t.id, .int .i64 v58.t.ts, .slice v58.ra v58.t.reads.length v58.rc, .slice v58.wa v58.t.writes.length v58.wc]), (111, .int .i64 (stampS two.d t.t (aroundS (IntKind.i64.wrap (at_ + later)) l1 r1).1.1 (aroundS (IntKind.i64.wrap (at_ + later)) l1 r1).1.2).2.2), (27, .pointer (some ⟨g60, 0, none⟩)), (28, .pointer (some ⟨g62, 0, none⟩)), (29, .int .i64 (stampS two.d t.t (aroundS (IntKind.i64.wrap (at_ + later)) l1 r1).1.1 (aroundS (IntKind.i64.wrap (at_ + later)) l1 r1).1.2).2.2), (112, .bool true), (113, .bool true), (114, .int .i64 (stampS two.d t.t (aroundS (IntKind.i64.wrap (at_ + later)) l1 r1).1.1 (aroundS (IntKind.i64.wrap (at_ + later)) l1 r1).1.2).2.2), (115, .bool (!((stampS two.d t.t (aroundS (IntKind.i64.wrap (at_ + later)) l1 r1).1.1 (aroundS (IntKind.i64.wrap (at_ + later)) l1 r1).1.2).2.2 == 0))), (116, .bool false), (117, .pointer (some ⟨g49, 1, none⟩)), (118, .int .i64 x43.t.ts), (119, .pointer (some ⟨g62, 1, none⟩)), (120, .int .i64 v58.t.ts), (121, .bool (decide (x43.t.ts < v58.t.ts))), (122, .bool (decide (x43.t.ts < v58.t.ts))), (123, .bool (decide (x43.t.ts < v58.t.ts))), (124, .int .i64 1)]) ⟨rfl, rfl, rfl, rfl, rfl, rfl, rfl, rfl, rfl, rfl, rfl, rfl, rfl, rfl, rfl, rfl, rfl, rfl, rfl, rfl, rfl, rfl, rfl, rfl, rfl, rfl, rfl, rfl, rfl, rfl, rfl, rfl, rfl, rfl, rfl, rfl, rfl, rfl, rfl, rfl, rfl, rfl, rfl, rfl, rfl, rfl, rfl, trivial⟩
                      refine xt_norm ?_
                      refine wp_seq ?_
                      refine wp_region_lit ?_
                      refine st_op (d := 105) (v' := .agg #[.int .i64 M31.last, .slice M31.sa M31.st.length M31.sc, .slice M31.oa M31.op.length M31.oc]) (vs := [.int .i64 M31.last, .slice M31.sa M31.st.length M31.sc, .slice M31.oa M31.op.length M31.oc]) (obs := [(⟨g67, 0, none⟩, .int .i64 M31.last), (⟨g67, 1, none⟩, .slice M31.sa M31.st.length M31.sc), (⟨g67, 2, none⟩, .slice M31.oa M31.op.length M31.oc)]) hK rfl (fun _ => by kernel_rfl) ⟨((hE.blk 0 rfl).cell 0).trans rfl, ((hE.blk 0 rfl).cell 1).trans rfl, ((hE.blk 0 rfl).cell 2).trans rfl, trivial⟩ rfl rfl rfl ?_
                      clear hK a; intro a hK
                      refine st_op (d := 106) (v' := .agg #[.int .i64 t.t.id, .int .i64 t.t.ts, .slice t.ra t.t.reads.length t.rc, .slice t.wa t.t.writes.length t.wc]) (vs := [.int .i64 t.t.id, .int .i64 t.t.ts, .slice t.ra t.t.reads.length t.rc, .slice t.wa t.t.writes.length t.wc]) (obs := [(⟨g5, 0, none⟩, .int .i64 t.t.id), (⟨g5, 1, none⟩, .int .i64 t.t.ts), (⟨g5, 2, none⟩, .slice t.ra t.t.reads.length t.rc), (⟨g5, 3, none⟩, .slice t.wa t.t.writes.length t.wc)]) hK rfl (fun _ => by kernel_rfl) ⟨((hE.blk 18 rfl).cell 0).trans rfl, ((hE.blk 18 rfl).cell 1).trans rfl, ((hE.blk 18 rfl).cell 2).trans rfl, ((hE.blk 18 rfl).cell 3).trans rfl, trivial⟩ rfl rfl rfl ?_
                      clear hK a; intro a hK
                      refine st_op (d := 107) (v' := .agg #[.int .i64 (aroundS (IntKind.i64.wrap (at_ + later)) l1 r1).1.1, .int .i64 (aroundS (IntKind.i64.wrap (at_ + later)) l1 r1).1.2]) (vs := [.int .i64 (aroundS (IntKind.i64.wrap (at_ + later)) l1 r1).1.1, .int .i64 (aroundS (IntKind.i64.wrap (at_ + later)) l1 r1).1.2]) (obs := [(⟨g26, 0, none⟩, .int .i64 (aroundS (IntKind.i64.wrap (at_ + later)) l1 r1).1.1), (⟨g26, 1, none⟩, .int .i64 (aroundS (IntKind.i64.wrap (at_ + later)) l1 r1).1.2)]) hK rfl (fun _ => by kernel_rfl) ⟨((hE.blk 13 rfl).cell 0).trans rfl, ((hE.blk 13 rfl).cell 1).trans rfl, trivial⟩ rfl rfl rfl ?_
                      clear hK a; intro a hK
                      refine st_call (d := 108) (f := 13) (args := #[.agg #[.int .i64 M31.last, .slice M31.sa M31.st.length M31.sc, .slice M31.oa M31.op.length M31.oc], .agg #[.int .i64 t.t.id, .int .i64 t.t.ts, .slice t.ra t.t.reads.length t.rc, .slice t.wa t.t.writes.length t.wc], .agg #[.int .i64 (aroundS (IntKind.i64.wrap (at_ + later)) l1 r1).1.1, .int .i64 (aroundS (IntKind.i64.wrap (at_ + later)) l1 r1).1.2]]) hK rfl (fun _ => by kernel_rfl) rfl rfl (stamp_anyF M31 t (aroundS (IntKind.i64.wrap (at_ + later)) l1 r1).1.1 (aroundS (IntKind.i64.wrap (at_ + later)) l1 r1).1.2 _ hLSM31 hsmt (hE.get 12 rfl) (hE.get 21 rfl)) ?_
                      rintro e w72 ⟨M70, v71, rfl, hM70, hv70, hl70, hx70, hfr70, hb⟩
                      refine ⟨_, rfl, ?_⟩
                      clear hK a; intro a hK
                      replace hE := hE.call hb
                      clear hb
                      replace hE := hE.dat (p := fun W => LdW W M70) (fun W hW => LdW.then_ hl70 hW)
                      replace hE := hE.dat (p := fun W => TxW W v71) (fun W hW => TxW.then_ hx70 hW)
                      refine st_op (d := 104) (v' := .tuple #[.agg #[.int .i64 M70.last, .slice M70.sa M70.st.length M70.sc, .slice M70.oa M70.op.length M70.oc], .agg #[.int .i64 v71.t.id, .int .i64 v71.t.ts, .slice v71.ra v71.t.reads.length v71.rc, .slice v71.wa v71.t.writes.length v71.wc], .int .i64 (stampS M31.d t.t (aroundS (IntKind.i64.wrap (at_ + later)) l1 r1).1.1 (aroundS (IntKind.i64.wrap (at_ + later)) l1 r1).1.2).2.2]) (vs := []) (obs := []) hK rfl (fun _ => by kernel_rfl) trivial rfl rfl rfl ?_
                      clear hK a; intro a hK
                      refine st_op (d := 109) (v' := .agg #[.int .i64 M70.last, .slice M70.sa M70.st.length M70.sc, .slice M70.oa M70.op.length M70.oc]) (vs := []) (obs := []) hK rfl (fun _ => by kernel_rfl) trivial rfl rfl rfl ?_
                      clear hK a; intro a hK
                      refine st_op (d := 110) (v' := .agg #[.int .i64 v71.t.id, .int .i64 v71.t.ts, .slice v71.ra v71.t.reads.length v71.rc, .slice v71.wa v71.t.writes.length v71.wc]) (vs := []) (obs := []) hK rfl (fun _ => by kernel_rfl) trivial rfl rfl rfl ?_
                      clear hK a; intro a hK
                      refine st_op (d := 111) (v' := .int .i64 (stampS M31.d t.t (aroundS (IntKind.i64.wrap (at_ + later)) l1 r1).1.1 (aroundS (IntKind.i64.wrap (at_ + later)) l1 r1).1.2).2.2) (vs := []) (obs := []) hK rfl (fun _ => by kernel_rfl) trivial rfl rfl rfl ?_
                      clear hK a; intro a hK
                      refine st_new (d := 27) (v := fun g => .pointer (some ⟨g, 0, none⟩)) (cs := #[.int .i64 0, .slice none 0 0, .slice none 0 0]) (t := 25) hK hE rfl (fun _ _ => by kernel_rfl) rfl rfl ?_
                      clear hK hE a; intro a g73 w74 _ _ hK hE
                      refine st_new (d := 28) (v := fun g => .pointer (some ⟨g, 0, none⟩)) (cs := #[.int .i64 0, .int .i64 0, .slice none 0 0, .slice none 0 0]) (t := 29) hK hE rfl (fun _ _ => by kernel_rfl) rfl rfl ?_
                      clear hK hE a; intro a g75 w76 _ _ hK hE
                      refine st_store2 1 [(0, .int .i64 M70.last), (1, .slice M70.sa M70.st.length M70.sc), (2, .slice M70.oa M70.op.length M70.oc)] hK hE rfl rfl (fun _ => by kernel_rfl) rfl rfl rfl ?_
                      clear hE; intro w77 hs_ hk_ hE
                      clear hs_ hk_
                      refine st_store2 0 [(0, .int .i64 v71.t.id), (1, .int .i64 v71.t.ts), (2, .slice v71.ra v71.t.reads.length v71.rc), (3, .slice v71.wa v71.t.writes.length v71.wc)] hK hE rfl rfl (fun _ => by kernel_rfl) rfl rfl rfl ?_
                      clear hE; intro w78 hs_ hk_ hE
                      clear hs_ hk_
                      refine st_op (d := 29) (v' := .int .i64 (stampS M31.d t.t (aroundS (IntKind.i64.wrap (at_ + later)) l1 r1).1.1 (aroundS (IntKind.i64.wrap (at_ + later)) l1 r1).1.2).2.2) (vs := []) (obs := []) hK rfl (fun _ => by kernel_rfl) trivial rfl rfl rfl ?_
                      clear hK a; intro a hK
                      refine wpList_nil ?_
                      replace hK := hK.weak (K' := [(3, .int .i64 at_), (8, .pointer (some ⟨g3, 0, none⟩)), (9, .pointer (some ⟨g5, 0, none⟩)), (14, .bool false), (18, .pointer (some ⟨g26, 0, none⟩)), (20, .pointer (some ⟨g36, 0, none⟩)), (90, .slice A32 m34.length c33), (91, .int .i64 ((m34.length : Nat) : Int)), (92, .int .i64 ((k : Nat) : Int)), (15, .bool (decide (x43.t.ts < v58.t.ts))), (93, .bool true), (94, .pointer (some ⟨b45, o46 + k * 4, none⟩)), (95, .agg #[.int .i64 x43.t.id, .int .i64 x43.t.ts, .slice x43.ra x43.t.reads.length x43.rc, .slice x43.wa x43.t.writes.length x43.wc]), (24, .pointer (some ⟨g49, 0, none⟩)), (96, .agg #[.int .i64 two.last, .slice two.sa two.st.length two.sc, .slice two.oa two.op.length two.oc]), (97, .agg #[.int .i64 M31.last, .slice M31.sa M31.st.length M31.sc, .slice M31.oa M31.op.length M31.oc]), (98, .slice (some ⟨g52, 0, none⟩) 2 2), (99, .int .i64 2), (100, .int .i64 1), (101, .bool true), (102, .pointer (some ⟨g52, 3, none⟩)), (103, .agg #[.int .i64 M31.last, .slice M31.sa M31.st.length M31.sc, .slice M31.oa M31.op.length M31.oc]), (26, .pointer (some ⟨g67, 0, none⟩)), (105, .agg #[.int .i64 M31.last, .slice M31.sa M31.st.length M31.sc, .slice M31.oa M31.op.length M31.oc]), (106, .agg #[.int .i64 t.t.id, .int .i64 t.t.ts, .slice t.ra t.t.reads.length t.rc, .slice t.wa t.t.writes.length t.wc]), (107, .agg #[.int .i64 (aroundS (IntKind.i64.wrap (at_ + later)) l1 r1).1.1, .int .i64 (aroundS (IntKind.i64.wrap (at_ + later)) l1 r1).1.2]), (108, .tuple #[.agg #[.int .i64 M70.last, .slice M70.sa M70.st.length M70.sc, .slice M70.oa M70.op.length M70.oc], .agg #[.int .i64 v71.t.id, .int .i64 v71.t.ts, .slice v71.ra v71.t.reads.length v71.rc, .slice v71.wa v71.t.writes.length v71.wc], .int .i64 (stampS M31.d t.t (aroundS (IntKind.i64.wrap (at_ + later)) l1 r1).1.1 (aroundS (IntKind.i64.wrap (at_ + later)) l1 r1).1.2).2.2]), (104, .tuple #[.agg #[.int .i64 M70.last, .slice M70.sa M70.st.length M70.sc, .slice M70.oa M70.op.length M70.oc], .agg #[.int .i64 v71.t.id, .int .i64 v71.t.ts, .slice v71.ra v71.t.reads.length v71.rc, .slice v71.wa v71.t.writes.length v71.wc], .int .i64 (stampS M31.d t.t (aroundS (IntKind.i64.wrap (at_ + later)) l1 r1).1.1 (aroundS (IntKind.i64.wrap (at_ + later)) l1 r1).1.2).2.2]), (109, .agg #[.int .i64 M70.last, .slice M70.sa M70.st.length M70.sc, .slice M70.oa M70.op.length M70.oc]), (110, .agg #[.int .i64 v71.t.id, .int .i64 v71.t.ts, .slice v71.ra v71.t.reads.length v71.rc, .slice v71.wa v71.t.writes.length v71.wc]), (111, .int .i64 (stampS M31.d t.t (aroundS (IntKind.i64.wrap (at_ + later)) l1 r1).1.1 (aroundS (IntKind.i64.wrap (at_ + later)) l1 r1).1.2).2.2), (27, .pointer (some ⟨g73, 0, none⟩)), (28, .pointer (some ⟨g75, 0, none⟩)), (29, .int .i64 (stampS M31.d t.t (aroundS (IntKind.i64.wrap (at_ + later)) l1 r1).1.1 (aroundS (IntKind.i64.wrap (at_ + later)) l1 r1).1.2).2.2), (112, .bool true), (113, .bool true), (114, .int .i64 (stampS two.d t.t (aroundS (IntKind.i64.wrap (at_ + later)) l1 r1).1.1 (aroundS (IntKind.i64.wrap (at_ + later)) l1 r1).1.2).2.2), (115, .bool (!((stampS two.d t.t (aroundS (IntKind.i64.wrap (at_ + later)) l1 r1).1.1 (aroundS (IntKind.i64.wrap (at_ + later)) l1 r1).1.2).2.2 == 0))), (116, .bool false), (117, .pointer (some ⟨g49, 1, none⟩)), (118, .int .i64 x43.t.ts), (119, .pointer (some ⟨g62, 1, none⟩)), (120, .int .i64 v58.t.ts), (121, .bool (decide (x43.t.ts < v58.t.ts))), (122, .bool (decide (x43.t.ts < v58.t.ts))), (123, .bool (decide (x43.t.ts < v58.t.ts))), (124, .int .i64 1)]) ⟨rfl, rfl, rfl, rfl, rfl, rfl, rfl, rfl, rfl, rfl, rfl, rfl, rfl, rfl, rfl, rfl, rfl, rfl, rfl, rfl, rfl, rfl, rfl, rfl, rfl, rfl, rfl, rfl, rfl, rfl, rfl, rfl, rfl, rfl, rfl, rfl, rfl, rfl, rfl, rfl, rfl, rfl, rfl, rfl, rfl, rfl, rfl, trivial⟩
                      refine xt_norm ?_
                      refine wp_region_lit ?_
                      refine st_op (d := 112) (v' := .bool (decide (x43.t.ts < v58.t.ts))) (vs := []) (obs := []) hK rfl (fun _ => by kernel_rfl) trivial rfl rfl rfl ?_
                      clear hK a; intro a hK
                      refine st_op (d := 113) (v' := .bool (decide (x43.t.ts < v58.t.ts))) (vs := []) (obs := []) hK rfl (fun _ => by kernel_rfl) trivial rfl rfl rfl ?_
                      clear hK a; intro a hK
                      have hd79 : (decide (x43.t.ts < v58.t.ts)) = true := decide_eq_true (by have h1 := shown_lt (hm31 ▸ txs_at hx44); have h2 := hri.2.1; rw [← hv57] at h2; rw [hsum] at h2 ha2; omega)
                      replace hK := hK.sub (d := 113) (v' := .bool true) rfl (congrArg Value.bool hd79)
                      refine st_op (d := 114) (v' := .int .i64 (stampS M31.d t.t (aroundS (IntKind.i64.wrap (at_ + later)) l1 r1).1.1 (aroundS (IntKind.i64.wrap (at_ + later)) l1 r1).1.2).2.2) (vs := []) (obs := []) hK rfl (fun _ => by kernel_rfl) trivial rfl rfl rfl ?_
                      clear hK a; intro a hK
                      refine st_op (d := 115) (v' := .bool ((stampS M31.d t.t (aroundS (IntKind.i64.wrap (at_ + later)) l1 r1).1.1 (aroundS (IntKind.i64.wrap (at_ + later)) l1 r1).1.2).2.2 != 0)) (v := .bool (!((stampS M31.d t.t (aroundS (IntKind.i64.wrap (at_ + later)) l1 r1).1.1 (aroundS (IntKind.i64.wrap (at_ + later)) l1 r1).1.2).2.2 == 0))) (vs := []) (obs := []) hK rfl (fun _ => by kernel_rfl) trivial rfl rfl rfl ?_
                      clear hK a; intro a hK
                      refine st_op (d := 116) (v' := .bool (!((stampS M31.d t.t (aroundS (IntKind.i64.wrap (at_ + later)) l1 r1).1.1 (aroundS (IntKind.i64.wrap (at_ + later)) l1 r1).1.2).2.2 == 0))) (vs := []) (obs := []) hK rfl (fun _ => by kernel_rfl) trivial rfl rfl rfl ?_
                      clear hK a; intro a hK
                      rcases Bool.eq_false_or_eq_true (((stampS M31.d t.t (aroundS (IntKind.i64.wrap (at_ + later)) l1 r1).1.1 (aroundS (IntKind.i64.wrap (at_ + later)) l1 r1).1.2).2.2 == 0)) with hc80 | hc80
                      · have hc80p := eq_of_beq hc80
                        have hri := rises_law hc80p
                        replace hK := hK.sub (d := 116) (v' := .bool false) rfl (congrArg (fun b => Value.bool !b) hc80)
                        refine st_op (d := 117) (v' := .pointer (some ⟨g49, 1, none⟩)) (vs := []) (obs := []) hK rfl (fun _ => by kernel_rfl) trivial rfl rfl rfl ?_
                        clear hK a; intro a hK
                        refine st_op (d := 118) (v' := .int .i64 x43.t.ts) (vs := [.int .i64 x43.t.ts]) (obs := [(⟨g49, 1, none⟩, .int .i64 x43.t.ts)]) hK rfl (fun _ => by kernel_rfl) ⟨((hE.blk 11 rfl).cell 1).trans rfl, trivial⟩ rfl rfl rfl ?_
                        clear hK a; intro a hK
                        refine st_op (d := 119) (v' := .pointer (some ⟨g75, 1, none⟩)) (vs := []) (obs := []) hK rfl (fun _ => by kernel_rfl) trivial rfl rfl rfl ?_
                        clear hK a; intro a hK
                        refine st_op (d := 120) (v' := .int .i64 v71.t.ts) (vs := [.int .i64 v71.t.ts]) (obs := [(⟨g75, 1, none⟩, .int .i64 v71.t.ts)]) hK rfl (fun _ => by kernel_rfl) ⟨((hE.blk 0 rfl).cell 1).trans rfl, trivial⟩ rfl rfl rfl ?_
                        clear hK a; intro a hK
                        refine st_op (d := 121) (v' := .bool (decide (x43.t.ts < v71.t.ts))) (vs := []) (obs := []) hK rfl (fun _ => by kernel_rfl) trivial rfl rfl rfl ?_
                        clear hK a; intro a hK
                        refine st_op (d := 122) (v' := .bool (decide (x43.t.ts < v71.t.ts))) (vs := []) (obs := []) hK rfl (fun _ => by kernel_rfl) trivial rfl rfl rfl ?_
                        clear hK a; intro a hK
                        refine st_op (d := 123) (v' := .bool (decide (x43.t.ts < v71.t.ts))) (vs := []) (obs := []) hK rfl (fun _ => by kernel_rfl) trivial rfl rfl rfl ?_
                        clear hK a; intro a hK
                        refine st_op (d := 15) (v' := .bool (decide (x43.t.ts < v71.t.ts))) (vs := []) (obs := []) hK rfl (fun _ => by kernel_rfl) trivial rfl rfl rfl ?_
                        clear hK a; intro a hK
                        refine wpList_nil ?_
                        replace hK := hK.weak (K' := [(3, .int .i64 at_), (8, .pointer (some ⟨g3, 0, none⟩)), (9, .pointer (some ⟨g5, 0, none⟩)), (14, .bool false), (18, .pointer (some ⟨g26, 0, none⟩)), (20, .pointer (some ⟨g36, 0, none⟩)), (90, .slice A32 m34.length c33), (91, .int .i64 ((m34.length : Nat) : Int)), (92, .int .i64 ((k : Nat) : Int)), (15, .bool (decide (x43.t.ts < v71.t.ts))), (93, .bool true), (94, .pointer (some ⟨b45, o46 + k * 4, none⟩)), (95, .agg #[.int .i64 x43.t.id, .int .i64 x43.t.ts, .slice x43.ra x43.t.reads.length x43.rc, .slice x43.wa x43.t.writes.length x43.wc]), (24, .pointer (some ⟨g49, 0, none⟩)), (96, .agg #[.int .i64 two.last, .slice two.sa two.st.length two.sc, .slice two.oa two.op.length two.oc]), (97, .agg #[.int .i64 M31.last, .slice M31.sa M31.st.length M31.sc, .slice M31.oa M31.op.length M31.oc]), (98, .slice (some ⟨g52, 0, none⟩) 2 2), (99, .int .i64 2), (100, .int .i64 1), (101, .bool true), (102, .pointer (some ⟨g52, 3, none⟩)), (103, .agg #[.int .i64 M31.last, .slice M31.sa M31.st.length M31.sc, .slice M31.oa M31.op.length M31.oc]), (26, .pointer (some ⟨g67, 0, none⟩)), (105, .agg #[.int .i64 M31.last, .slice M31.sa M31.st.length M31.sc, .slice M31.oa M31.op.length M31.oc]), (106, .agg #[.int .i64 t.t.id, .int .i64 t.t.ts, .slice t.ra t.t.reads.length t.rc, .slice t.wa t.t.writes.length t.wc]), (107, .agg #[.int .i64 (aroundS (IntKind.i64.wrap (at_ + later)) l1 r1).1.1, .int .i64 (aroundS (IntKind.i64.wrap (at_ + later)) l1 r1).1.2]), (108, .tuple #[.agg #[.int .i64 M70.last, .slice M70.sa M70.st.length M70.sc, .slice M70.oa M70.op.length M70.oc], .agg #[.int .i64 v71.t.id, .int .i64 v71.t.ts, .slice v71.ra v71.t.reads.length v71.rc, .slice v71.wa v71.t.writes.length v71.wc], .int .i64 (stampS M31.d t.t (aroundS (IntKind.i64.wrap (at_ + later)) l1 r1).1.1 (aroundS (IntKind.i64.wrap (at_ + later)) l1 r1).1.2).2.2]), (104, .tuple #[.agg #[.int .i64 M70.last, .slice M70.sa M70.st.length M70.sc, .slice M70.oa M70.op.length M70.oc], .agg #[.int .i64 v71.t.id, .int .i64 v71.t.ts, .slice v71.ra v71.t.reads.length v71.rc, .slice v71.wa v71.t.writes.length v71.wc], .int .i64 (stampS M31.d t.t (aroundS (IntKind.i64.wrap (at_ + later)) l1 r1).1.1 (aroundS (IntKind.i64.wrap (at_ + later)) l1 r1).1.2).2.2]), (109, .agg #[.int .i64 M70.last, .slice M70.sa M70.st.length M70.sc, .slice M70.oa M70.op.length M70.oc]), (110, .agg #[.int .i64 v71.t.id, .int .i64 v71.t.ts, .slice v71.ra v71.t.reads.length v71.rc, .slice v71.wa v71.t.writes.length v71.wc]), (111, .int .i64 (stampS M31.d t.t (aroundS (IntKind.i64.wrap (at_ + later)) l1 r1).1.1 (aroundS (IntKind.i64.wrap (at_ + later)) l1 r1).1.2).2.2), (27, .pointer (some ⟨g73, 0, none⟩)), (28, .pointer (some ⟨g75, 0, none⟩)), (29, .int .i64 (stampS M31.d t.t (aroundS (IntKind.i64.wrap (at_ + later)) l1 r1).1.1 (aroundS (IntKind.i64.wrap (at_ + later)) l1 r1).1.2).2.2), (112, .bool (decide (x43.t.ts < v58.t.ts))), (113, .bool true), (114, .int .i64 (stampS M31.d t.t (aroundS (IntKind.i64.wrap (at_ + later)) l1 r1).1.1 (aroundS (IntKind.i64.wrap (at_ + later)) l1 r1).1.2).2.2), (115, .bool (!((stampS M31.d t.t (aroundS (IntKind.i64.wrap (at_ + later)) l1 r1).1.1 (aroundS (IntKind.i64.wrap (at_ + later)) l1 r1).1.2).2.2 == 0))), (116, .bool false), (117, .pointer (some ⟨g49, 1, none⟩)), (118, .int .i64 x43.t.ts), (119, .pointer (some ⟨g75, 1, none⟩)), (120, .int .i64 v71.t.ts), (121, .bool (decide (x43.t.ts < v71.t.ts))), (122, .bool (decide (x43.t.ts < v71.t.ts))), (123, .bool (decide (x43.t.ts < v71.t.ts))), (124, .int .i64 1)]) ⟨rfl, rfl, rfl, rfl, rfl, rfl, rfl, rfl, rfl, rfl, rfl, rfl, rfl, rfl, rfl, rfl, rfl, rfl, rfl, rfl, rfl, rfl, rfl, rfl, rfl, rfl, rfl, rfl, rfl, rfl, rfl, rfl, rfl, rfl, rfl, rfl, rfl, rfl, rfl, rfl, rfl, rfl, rfl, rfl, rfl, rfl, rfl, trivial⟩
                        refine xb_norm ?_
                        refine xt_norm ?_
                        refine wp_region_lit ?_
                        refine st_op (d := 124) (v' := .int .i64 2) (vs := []) (obs := []) hK rfl (fun _ => by kernel_rfl) trivial rfl rfl rfl ?_
                        clear hK a; intro a hK
                        refine st_op (d := 100) (v' := .int .i64 2) (vs := []) (obs := []) hK rfl (fun _ => by kernel_rfl) trivial rfl rfl rfl ?_
                        clear hK a; intro a hK
                        refine wpList_nil ?_
                        replace hK := hK.weak (K' := [(3, .int .i64 at_), (8, .pointer (some ⟨g3, 0, none⟩)), (9, .pointer (some ⟨g5, 0, none⟩)), (14, .bool false), (18, .pointer (some ⟨g26, 0, none⟩)), (20, .pointer (some ⟨g36, 0, none⟩)), (90, .slice A32 m34.length c33), (91, .int .i64 ((m34.length : Nat) : Int)), (92, .int .i64 ((k : Nat) : Int)), (15, .bool (decide (x43.t.ts < v71.t.ts))), (93, .bool true), (94, .pointer (some ⟨b45, o46 + k * 4, none⟩)), (95, .agg #[.int .i64 x43.t.id, .int .i64 x43.t.ts, .slice x43.ra x43.t.reads.length x43.rc, .slice x43.wa x43.t.writes.length x43.wc]), (24, .pointer (some ⟨g49, 0, none⟩)), (96, .agg #[.int .i64 two.last, .slice two.sa two.st.length two.sc, .slice two.oa two.op.length two.oc]), (97, .agg #[.int .i64 M31.last, .slice M31.sa M31.st.length M31.sc, .slice M31.oa M31.op.length M31.oc]), (98, .slice (some ⟨g52, 0, none⟩) 2 2), (99, .int .i64 2), (100, .int .i64 2), (101, .bool true), (102, .pointer (some ⟨g52, 3, none⟩)), (103, .agg #[.int .i64 M31.last, .slice M31.sa M31.st.length M31.sc, .slice M31.oa M31.op.length M31.oc]), (26, .pointer (some ⟨g67, 0, none⟩)), (105, .agg #[.int .i64 M31.last, .slice M31.sa M31.st.length M31.sc, .slice M31.oa M31.op.length M31.oc]), (106, .agg #[.int .i64 t.t.id, .int .i64 t.t.ts, .slice t.ra t.t.reads.length t.rc, .slice t.wa t.t.writes.length t.wc]), (107, .agg #[.int .i64 (aroundS (IntKind.i64.wrap (at_ + later)) l1 r1).1.1, .int .i64 (aroundS (IntKind.i64.wrap (at_ + later)) l1 r1).1.2]), (108, .tuple #[.agg #[.int .i64 M70.last, .slice M70.sa M70.st.length M70.sc, .slice M70.oa M70.op.length M70.oc], .agg #[.int .i64 v71.t.id, .int .i64 v71.t.ts, .slice v71.ra v71.t.reads.length v71.rc, .slice v71.wa v71.t.writes.length v71.wc], .int .i64 (stampS M31.d t.t (aroundS (IntKind.i64.wrap (at_ + later)) l1 r1).1.1 (aroundS (IntKind.i64.wrap (at_ + later)) l1 r1).1.2).2.2]), (104, .tuple #[.agg #[.int .i64 M70.last, .slice M70.sa M70.st.length M70.sc, .slice M70.oa M70.op.length M70.oc], .agg #[.int .i64 v71.t.id, .int .i64 v71.t.ts, .slice v71.ra v71.t.reads.length v71.rc, .slice v71.wa v71.t.writes.length v71.wc], .int .i64 (stampS M31.d t.t (aroundS (IntKind.i64.wrap (at_ + later)) l1 r1).1.1 (aroundS (IntKind.i64.wrap (at_ + later)) l1 r1).1.2).2.2]), (109, .agg #[.int .i64 M70.last, .slice M70.sa M70.st.length M70.sc, .slice M70.oa M70.op.length M70.oc]), (110, .agg #[.int .i64 v71.t.id, .int .i64 v71.t.ts, .slice v71.ra v71.t.reads.length v71.rc, .slice v71.wa v71.t.writes.length v71.wc]), (111, .int .i64 (stampS M31.d t.t (aroundS (IntKind.i64.wrap (at_ + later)) l1 r1).1.1 (aroundS (IntKind.i64.wrap (at_ + later)) l1 r1).1.2).2.2), (27, .pointer (some ⟨g73, 0, none⟩)), (28, .pointer (some ⟨g75, 0, none⟩)), (29, .int .i64 (stampS M31.d t.t (aroundS (IntKind.i64.wrap (at_ + later)) l1 r1).1.1 (aroundS (IntKind.i64.wrap (at_ + later)) l1 r1).1.2).2.2), (112, .bool (decide (x43.t.ts < v58.t.ts))), (113, .bool true), (114, .int .i64 (stampS M31.d t.t (aroundS (IntKind.i64.wrap (at_ + later)) l1 r1).1.1 (aroundS (IntKind.i64.wrap (at_ + later)) l1 r1).1.2).2.2), (115, .bool (!((stampS M31.d t.t (aroundS (IntKind.i64.wrap (at_ + later)) l1 r1).1.1 (aroundS (IntKind.i64.wrap (at_ + later)) l1 r1).1.2).2.2 == 0))), (116, .bool false), (117, .pointer (some ⟨g49, 1, none⟩)), (118, .int .i64 x43.t.ts), (119, .pointer (some ⟨g75, 1, none⟩)), (120, .int .i64 v71.t.ts), (121, .bool (decide (x43.t.ts < v71.t.ts))), (122, .bool (decide (x43.t.ts < v71.t.ts))), (123, .bool (decide (x43.t.ts < v71.t.ts))), (124, .int .i64 2)]) ⟨rfl, rfl, rfl, rfl, rfl, rfl, rfl, rfl, rfl, rfl, rfl, rfl, rfl, rfl, rfl, rfl, rfl, rfl, rfl, rfl, rfl, rfl, rfl, rfl, rfl, rfl, rfl, rfl, rfl, rfl, rfl, rfl, rfl, rfl, rfl, rfl, rfl, rfl, rfl, rfl, rfl, rfl, rfl, rfl, rfl, rfl, rfl, trivial⟩
                        refine xt_norm ?_
                        refine vc_round ?_
                        refine wp_seq ?_
                        refine wp_region_lit ?_
                        refine st_op (d := 101) (v' := .bool false) (vs := []) (obs := []) hK rfl (fun _ => by kernel_rfl) trivial rfl rfl rfl ?_
                        clear hK a; intro a hK
                        refine wpList_nil ?_
                        replace hK := hK.weak (K' := [(3, .int .i64 at_), (8, .pointer (some ⟨g3, 0, none⟩)), (9, .pointer (some ⟨g5, 0, none⟩)), (14, .bool false), (18, .pointer (some ⟨g26, 0, none⟩)), (20, .pointer (some ⟨g36, 0, none⟩)), (90, .slice A32 m34.length c33), (91, .int .i64 ((m34.length : Nat) : Int)), (92, .int .i64 ((k : Nat) : Int)), (15, .bool (decide (x43.t.ts < v71.t.ts))), (93, .bool true), (94, .pointer (some ⟨b45, o46 + k * 4, none⟩)), (95, .agg #[.int .i64 x43.t.id, .int .i64 x43.t.ts, .slice x43.ra x43.t.reads.length x43.rc, .slice x43.wa x43.t.writes.length x43.wc]), (24, .pointer (some ⟨g49, 0, none⟩)), (96, .agg #[.int .i64 two.last, .slice two.sa two.st.length two.sc, .slice two.oa two.op.length two.oc]), (97, .agg #[.int .i64 M31.last, .slice M31.sa M31.st.length M31.sc, .slice M31.oa M31.op.length M31.oc]), (98, .slice (some ⟨g52, 0, none⟩) 2 2), (99, .int .i64 2), (100, .int .i64 2), (101, .bool false), (102, .pointer (some ⟨g52, 3, none⟩)), (103, .agg #[.int .i64 M31.last, .slice M31.sa M31.st.length M31.sc, .slice M31.oa M31.op.length M31.oc]), (26, .pointer (some ⟨g67, 0, none⟩)), (105, .agg #[.int .i64 M31.last, .slice M31.sa M31.st.length M31.sc, .slice M31.oa M31.op.length M31.oc]), (106, .agg #[.int .i64 t.t.id, .int .i64 t.t.ts, .slice t.ra t.t.reads.length t.rc, .slice t.wa t.t.writes.length t.wc]), (107, .agg #[.int .i64 (aroundS (IntKind.i64.wrap (at_ + later)) l1 r1).1.1, .int .i64 (aroundS (IntKind.i64.wrap (at_ + later)) l1 r1).1.2]), (108, .tuple #[.agg #[.int .i64 M70.last, .slice M70.sa M70.st.length M70.sc, .slice M70.oa M70.op.length M70.oc], .agg #[.int .i64 v71.t.id, .int .i64 v71.t.ts, .slice v71.ra v71.t.reads.length v71.rc, .slice v71.wa v71.t.writes.length v71.wc], .int .i64 (stampS M31.d t.t (aroundS (IntKind.i64.wrap (at_ + later)) l1 r1).1.1 (aroundS (IntKind.i64.wrap (at_ + later)) l1 r1).1.2).2.2]), (104, .tuple #[.agg #[.int .i64 M70.last, .slice M70.sa M70.st.length M70.sc, .slice M70.oa M70.op.length M70.oc], .agg #[.int .i64 v71.t.id, .int .i64 v71.t.ts, .slice v71.ra v71.t.reads.length v71.rc, .slice v71.wa v71.t.writes.length v71.wc], .int .i64 (stampS M31.d t.t (aroundS (IntKind.i64.wrap (at_ + later)) l1 r1).1.1 (aroundS (IntKind.i64.wrap (at_ + later)) l1 r1).1.2).2.2]), (109, .agg #[.int .i64 M70.last, .slice M70.sa M70.st.length M70.sc, .slice M70.oa M70.op.length M70.oc]), (110, .agg #[.int .i64 v71.t.id, .int .i64 v71.t.ts, .slice v71.ra v71.t.reads.length v71.rc, .slice v71.wa v71.t.writes.length v71.wc]), (111, .int .i64 (stampS M31.d t.t (aroundS (IntKind.i64.wrap (at_ + later)) l1 r1).1.1 (aroundS (IntKind.i64.wrap (at_ + later)) l1 r1).1.2).2.2), (27, .pointer (some ⟨g73, 0, none⟩)), (28, .pointer (some ⟨g75, 0, none⟩)), (29, .int .i64 (stampS M31.d t.t (aroundS (IntKind.i64.wrap (at_ + later)) l1 r1).1.1 (aroundS (IntKind.i64.wrap (at_ + later)) l1 r1).1.2).2.2), (112, .bool (decide (x43.t.ts < v58.t.ts))), (113, .bool true), (114, .int .i64 (stampS M31.d t.t (aroundS (IntKind.i64.wrap (at_ + later)) l1 r1).1.1 (aroundS (IntKind.i64.wrap (at_ + later)) l1 r1).1.2).2.2), (115, .bool (!((stampS M31.d t.t (aroundS (IntKind.i64.wrap (at_ + later)) l1 r1).1.1 (aroundS (IntKind.i64.wrap (at_ + later)) l1 r1).1.2).2.2 == 0))), (116, .bool false), (117, .pointer (some ⟨g49, 1, none⟩)), (118, .int .i64 x43.t.ts), (119, .pointer (some ⟨g75, 1, none⟩)), (120, .int .i64 v71.t.ts), (121, .bool (decide (x43.t.ts < v71.t.ts))), (122, .bool (decide (x43.t.ts < v71.t.ts))), (123, .bool (decide (x43.t.ts < v71.t.ts))), (124, .int .i64 2)]) ⟨rfl, rfl, rfl, rfl, rfl, rfl, rfl, rfl, rfl, rfl, rfl, rfl, rfl, rfl, rfl, rfl, rfl, rfl, rfl, rfl, rfl, rfl, rfl, rfl, rfl, rfl, rfl, rfl, rfl, rfl, rfl, rfl, rfl, rfl, rfl, rfl, rfl, rfl, rfl, rfl, rfl, rfl, rfl, rfl, rfl, rfl, rfl, trivial⟩
                        refine xt_norm ?_
                        refine wp_seq ?_
                        refine vc_cond (t := false) hK (fun _ => rfl) ?_
                        rw [if_neg (by simp)]
                        refine wp_exit ?_
                        refine xt_exit ?_
                        refine xt_exit ?_
                        refine xb_hit ?_
                        refine xt_norm ?_
                        refine wp_region_lit ?_
                        refine st_op (d := 125) (v' := .bool (decide (x43.t.ts < v71.t.ts))) (vs := []) (obs := []) hK rfl (fun _ => by kernel_rfl) trivial rfl rfl rfl ?_
                        clear hK a; intro a hK
                        refine st_op (d := 126) (v' := .bool (decide (x43.t.ts < v71.t.ts))) (vs := []) (obs := []) hK rfl (fun _ => by kernel_rfl) trivial rfl rfl rfl ?_
                        clear hK a; intro a hK
                        have hd81 : (decide (x43.t.ts < v71.t.ts)) = true := decide_eq_true (by have h1 := shown_lt (hm31 ▸ txs_at hx44); have h2 := hri.2.1; rw [← hv70] at h2; rw [hsum] at h2 ha2; omega)
                        replace hK := hK.sub (d := 126) (v' := .bool true) rfl (congrArg Value.bool hd81)
                        refine st_op (d := 127) (v' := .pointer (some ⟨g49, 1, none⟩)) (vs := []) (obs := []) hK rfl (fun _ => by kernel_rfl) trivial rfl rfl rfl ?_
                        clear hK a; intro a hK
                        refine st_op (d := 128) (v' := .int .i64 x43.t.ts) (vs := [.int .i64 x43.t.ts]) (obs := [(⟨g49, 1, none⟩, .int .i64 x43.t.ts)]) hK rfl (fun _ => by kernel_rfl) ⟨((hE.blk 11 rfl).cell 1).trans rfl, trivial⟩ rfl rfl rfl ?_
                        clear hK a; intro a hK
                        refine st_op (d := 129) (v' := .int .i64 at_) (vs := []) (obs := []) hK rfl (fun _ => by kernel_rfl) trivial rfl rfl rfl ?_
                        clear hK a; intro a hK
                        refine st_op (d := 130) (v' := .bool (decide (x43.t.ts < at_))) (vs := []) (obs := []) hK rfl (fun _ => by kernel_rfl) trivial rfl rfl rfl ?_
                        clear hK a; intro a hK
                        refine st_op (d := 131) (v' := .bool (decide (x43.t.ts < at_))) (vs := []) (obs := []) hK rfl (fun _ => by kernel_rfl) trivial rfl rfl rfl ?_
                        clear hK a; intro a hK
                        refine st_op (d := 15) (v' := .bool (decide (x43.t.ts < at_))) (vs := []) (obs := []) hK rfl (fun _ => by kernel_rfl) trivial rfl rfl rfl ?_
                        clear hK a; intro a hK
                        refine wpList_nil ?_
                        replace hK := hK.weak (K' := [(3, .int .i64 at_), (8, .pointer (some ⟨g3, 0, none⟩)), (9, .pointer (some ⟨g5, 0, none⟩)), (14, .bool false), (18, .pointer (some ⟨g26, 0, none⟩)), (20, .pointer (some ⟨g36, 0, none⟩)), (90, .slice A32 m34.length c33), (91, .int .i64 ((m34.length : Nat) : Int)), (92, .int .i64 ((k : Nat) : Int)), (15, .bool (decide (x43.t.ts < at_))), (93, .bool true), (94, .pointer (some ⟨b45, o46 + k * 4, none⟩)), (95, .agg #[.int .i64 x43.t.id, .int .i64 x43.t.ts, .slice x43.ra x43.t.reads.length x43.rc, .slice x43.wa x43.t.writes.length x43.wc]), (24, .pointer (some ⟨g49, 0, none⟩)), (96, .agg #[.int .i64 two.last, .slice two.sa two.st.length two.sc, .slice two.oa two.op.length two.oc]), (97, .agg #[.int .i64 M31.last, .slice M31.sa M31.st.length M31.sc, .slice M31.oa M31.op.length M31.oc]), (98, .slice (some ⟨g52, 0, none⟩) 2 2), (99, .int .i64 2), (100, .int .i64 2), (101, .bool false), (102, .pointer (some ⟨g52, 3, none⟩)), (103, .agg #[.int .i64 M31.last, .slice M31.sa M31.st.length M31.sc, .slice M31.oa M31.op.length M31.oc]), (26, .pointer (some ⟨g67, 0, none⟩)), (105, .agg #[.int .i64 M31.last, .slice M31.sa M31.st.length M31.sc, .slice M31.oa M31.op.length M31.oc]), (106, .agg #[.int .i64 t.t.id, .int .i64 t.t.ts, .slice t.ra t.t.reads.length t.rc, .slice t.wa t.t.writes.length t.wc]), (107, .agg #[.int .i64 (aroundS (IntKind.i64.wrap (at_ + later)) l1 r1).1.1, .int .i64 (aroundS (IntKind.i64.wrap (at_ + later)) l1 r1).1.2]), (108, .tuple #[.agg #[.int .i64 M70.last, .slice M70.sa M70.st.length M70.sc, .slice M70.oa M70.op.length M70.oc], .agg #[.int .i64 v71.t.id, .int .i64 v71.t.ts, .slice v71.ra v71.t.reads.length v71.rc, .slice v71.wa v71.t.writes.length v71.wc], .int .i64 (stampS M31.d t.t (aroundS (IntKind.i64.wrap (at_ + later)) l1 r1).1.1 (aroundS (IntKind.i64.wrap (at_ + later)) l1 r1).1.2).2.2]), (104, .tuple #[.agg #[.int .i64 M70.last, .slice M70.sa M70.st.length M70.sc, .slice M70.oa M70.op.length M70.oc], .agg #[.int .i64 v71.t.id, .int .i64 v71.t.ts, .slice v71.ra v71.t.reads.length v71.rc, .slice v71.wa v71.t.writes.length v71.wc], .int .i64 (stampS M31.d t.t (aroundS (IntKind.i64.wrap (at_ + later)) l1 r1).1.1 (aroundS (IntKind.i64.wrap (at_ + later)) l1 r1).1.2).2.2]), (109, .agg #[.int .i64 M70.last, .slice M70.sa M70.st.length M70.sc, .slice M70.oa M70.op.length M70.oc]), (110, .agg #[.int .i64 v71.t.id, .int .i64 v71.t.ts, .slice v71.ra v71.t.reads.length v71.rc, .slice v71.wa v71.t.writes.length v71.wc]), (111, .int .i64 (stampS M31.d t.t (aroundS (IntKind.i64.wrap (at_ + later)) l1 r1).1.1 (aroundS (IntKind.i64.wrap (at_ + later)) l1 r1).1.2).2.2), (27, .pointer (some ⟨g73, 0, none⟩)), (28, .pointer (some ⟨g75, 0, none⟩)), (29, .int .i64 (stampS M31.d t.t (aroundS (IntKind.i64.wrap (at_ + later)) l1 r1).1.1 (aroundS (IntKind.i64.wrap (at_ + later)) l1 r1).1.2).2.2), (112, .bool (decide (x43.t.ts < v58.t.ts))), (113, .bool true), (114, .int .i64 (stampS M31.d t.t (aroundS (IntKind.i64.wrap (at_ + later)) l1 r1).1.1 (aroundS (IntKind.i64.wrap (at_ + later)) l1 r1).1.2).2.2), (115, .bool (!((stampS M31.d t.t (aroundS (IntKind.i64.wrap (at_ + later)) l1 r1).1.1 (aroundS (IntKind.i64.wrap (at_ + later)) l1 r1).1.2).2.2 == 0))), (116, .bool false), (117, .pointer (some ⟨g49, 1, none⟩)), (118, .int .i64 x43.t.ts), (119, .pointer (some ⟨g75, 1, none⟩)), (120, .int .i64 v71.t.ts), (121, .bool (decide (x43.t.ts < v71.t.ts))), (122, .bool (decide (x43.t.ts < v71.t.ts))), (123, .bool (decide (x43.t.ts < v71.t.ts))), (124, .int .i64 2), (125, .bool (decide (x43.t.ts < v71.t.ts))), (126, .bool true), (127, .pointer (some ⟨g49, 1, none⟩)), (128, .int .i64 x43.t.ts), (129, .int .i64 at_), (130, .bool (decide (x43.t.ts < at_))), (131, .bool (decide (x43.t.ts < at_)))]) ⟨rfl, rfl, rfl, rfl, rfl, rfl, rfl, rfl, rfl, rfl, rfl, rfl, rfl, rfl, rfl, rfl, rfl, rfl, rfl, rfl, rfl, rfl, rfl, rfl, rfl, rfl, rfl, rfl, rfl, rfl, rfl, rfl, rfl, rfl, rfl, rfl, rfl, rfl, rfl, rfl, rfl, rfl, rfl, rfl, rfl, rfl, rfl, rfl, rfl, rfl, rfl, rfl, rfl, rfl, trivial⟩
                        refine xb_norm ?_
                        refine xt_norm ?_
                        refine wp_region_lit ?_
                        refine st_op (d := 132) (v' := .int .i64 (IntKind.i64.wrap (((k : Nat) : Int) + 1))) (v := .int .i64 (((k : Nat) : Int) + 1)) (vs := []) (obs := []) hK rfl (fun _ => by kernel_rfl) trivial (congrArg (Value.int .i64) (IntWalk.i64_in _ (by omega))) rfl rfl ?_
                        clear hK a; intro a hK
                        refine st_op (d := 92) (v' := .int .i64 (((k : Nat) : Int) + 1)) (vs := []) (obs := []) hK rfl (fun _ => by kernel_rfl) trivial rfl rfl rfl ?_
                        clear hK a; intro a hK
                        refine wpList_nil ?_
                        replace hK := hK.weak (K' := [(3, .int .i64 at_), (8, .pointer (some ⟨g3, 0, none⟩)), (9, .pointer (some ⟨g5, 0, none⟩)), (14, .bool false), (18, .pointer (some ⟨g26, 0, none⟩)), (20, .pointer (some ⟨g36, 0, none⟩)), (90, .slice A32 m34.length c33), (91, .int .i64 ((m34.length : Nat) : Int)), (92, .int .i64 (((k : Nat) : Int) + 1)), (15, .bool (decide (x43.t.ts < at_))), (93, .bool true), (94, .pointer (some ⟨b45, o46 + k * 4, none⟩)), (95, .agg #[.int .i64 x43.t.id, .int .i64 x43.t.ts, .slice x43.ra x43.t.reads.length x43.rc, .slice x43.wa x43.t.writes.length x43.wc]), (24, .pointer (some ⟨g49, 0, none⟩)), (96, .agg #[.int .i64 two.last, .slice two.sa two.st.length two.sc, .slice two.oa two.op.length two.oc]), (97, .agg #[.int .i64 M31.last, .slice M31.sa M31.st.length M31.sc, .slice M31.oa M31.op.length M31.oc]), (98, .slice (some ⟨g52, 0, none⟩) 2 2), (99, .int .i64 2), (100, .int .i64 2), (101, .bool false), (102, .pointer (some ⟨g52, 3, none⟩)), (103, .agg #[.int .i64 M31.last, .slice M31.sa M31.st.length M31.sc, .slice M31.oa M31.op.length M31.oc]), (26, .pointer (some ⟨g67, 0, none⟩)), (105, .agg #[.int .i64 M31.last, .slice M31.sa M31.st.length M31.sc, .slice M31.oa M31.op.length M31.oc]), (106, .agg #[.int .i64 t.t.id, .int .i64 t.t.ts, .slice t.ra t.t.reads.length t.rc, .slice t.wa t.t.writes.length t.wc]), (107, .agg #[.int .i64 (aroundS (IntKind.i64.wrap (at_ + later)) l1 r1).1.1, .int .i64 (aroundS (IntKind.i64.wrap (at_ + later)) l1 r1).1.2]), (108, .tuple #[.agg #[.int .i64 M70.last, .slice M70.sa M70.st.length M70.sc, .slice M70.oa M70.op.length M70.oc], .agg #[.int .i64 v71.t.id, .int .i64 v71.t.ts, .slice v71.ra v71.t.reads.length v71.rc, .slice v71.wa v71.t.writes.length v71.wc], .int .i64 (stampS M31.d t.t (aroundS (IntKind.i64.wrap (at_ + later)) l1 r1).1.1 (aroundS (IntKind.i64.wrap (at_ + later)) l1 r1).1.2).2.2]), (104, .tuple #[.agg #[.int .i64 M70.last, .slice M70.sa M70.st.length M70.sc, .slice M70.oa M70.op.length M70.oc], .agg #[.int .i64 v71.t.id, .int .i64 v71.t.ts, .slice v71.ra v71.t.reads.length v71.rc, .slice v71.wa v71.t.writes.length v71.wc], .int .i64 (stampS M31.d t.t (aroundS (IntKind.i64.wrap (at_ + later)) l1 r1).1.1 (aroundS (IntKind.i64.wrap (at_ + later)) l1 r1).1.2).2.2]), (109, .agg #[.int .i64 M70.last, .slice M70.sa M70.st.length M70.sc, .slice M70.oa M70.op.length M70.oc]), (110, .agg #[.int .i64 v71.t.id, .int .i64 v71.t.ts, .slice v71.ra v71.t.reads.length v71.rc, .slice v71.wa v71.t.writes.length v71.wc]), (111, .int .i64 (stampS M31.d t.t (aroundS (IntKind.i64.wrap (at_ + later)) l1 r1).1.1 (aroundS (IntKind.i64.wrap (at_ + later)) l1 r1).1.2).2.2), (27, .pointer (some ⟨g73, 0, none⟩)), (28, .pointer (some ⟨g75, 0, none⟩)), (29, .int .i64 (stampS M31.d t.t (aroundS (IntKind.i64.wrap (at_ + later)) l1 r1).1.1 (aroundS (IntKind.i64.wrap (at_ + later)) l1 r1).1.2).2.2), (112, .bool (decide (x43.t.ts < v58.t.ts))), (113, .bool true), (114, .int .i64 (stampS M31.d t.t (aroundS (IntKind.i64.wrap (at_ + later)) l1 r1).1.1 (aroundS (IntKind.i64.wrap (at_ + later)) l1 r1).1.2).2.2), (115, .bool (!((stampS M31.d t.t (aroundS (IntKind.i64.wrap (at_ + later)) l1 r1).1.1 (aroundS (IntKind.i64.wrap (at_ + later)) l1 r1).1.2).2.2 == 0))), (116, .bool false), (117, .pointer (some ⟨g49, 1, none⟩)), (118, .int .i64 x43.t.ts), (119, .pointer (some ⟨g75, 1, none⟩)), (120, .int .i64 v71.t.ts), (121, .bool (decide (x43.t.ts < v71.t.ts))), (122, .bool (decide (x43.t.ts < v71.t.ts))), (123, .bool (decide (x43.t.ts < v71.t.ts))), (124, .int .i64 2), (125, .bool (decide (x43.t.ts < v71.t.ts))), (126, .bool true), (127, .pointer (some ⟨g49, 1, none⟩)), (128, .int .i64 x43.t.ts), (129, .int .i64 at_), (130, .bool (decide (x43.t.ts < at_))), (131, .bool (decide (x43.t.ts < at_))), (132, .int .i64 (((k : Nat) : Int) + 1))]) ⟨rfl, rfl, rfl, rfl, rfl, rfl, rfl, rfl, rfl, rfl, rfl, rfl, rfl, rfl, rfl, rfl, rfl, rfl, rfl, rfl, rfl, rfl, rfl, rfl, rfl, rfl, rfl, rfl, rfl, rfl, rfl, rfl, rfl, rfl, rfl, rfl, rfl, rfl, rfl, rfl, rfl, rfl, rfl, rfl, rfl, rfl, rfl, rfl, rfl, rfl, rfl, rfl, rfl, rfl, rfl, trivial⟩
                        refine xt_norm ?_
                        replace hK := hK.sub (d := 92) (v' := .int .i64 (((k + 1) : Nat) : Int)) rfl (by first | rfl | (congr 1; omega))
                        have hd82 : (decide (x43.t.ts < at_)) = true := decide_eq_true (by have h1 := shown_lt (hm31 ▸ txs_at hx44); omega)
                        replace hK := hK.sub (d := 15) (v' := .bool true) rfl (congrArg Value.bool hd82)
                        refine ⟨k + 1, ⟨hK.weak ⟨rfl, rfl, rfl, rfl, rfl, rfl, rfl, rfl, rfl, rfl, trivial⟩, hE.drop (.cons _ (.cons _ (.cons _ (.cons _ (.cons _ (.cons _ (.cons _ (.cons _ (.cons _ (.cons _ (.cons _ (.cons _ (.cons _ (.cons _ (.cons_cons _ (.cons_cons _ (.cons_cons _ (.cons_cons _ (.cons_cons _ (.cons_cons _ (.cons_cons _ (.cons_cons _ (.cons_cons _ (.cons_cons _ (.cons_cons _ (.cons_cons _ (.cons_cons _ (.cons_cons _ .slnil)))))))))))))))))))))))))))), by omega, trivial⟩, by omega⟩
                      · have hc80p := ne_of_beq_false hc80
                        replace hK := hK.sub (d := 116) (v' := .bool true) rfl (congrArg (fun b => Value.bool !b) hc80)
                        refine st_skip (d := 117) hK rfl rfl rfl ?_
                        clear hK a; intro a hK
                        refine st_skip (d := 118) hK rfl rfl rfl ?_
                        clear hK a; intro a hK
                        refine st_skip (d := 119) hK rfl rfl rfl ?_
                        clear hK a; intro a hK
                        refine st_skip (d := 120) hK rfl rfl rfl ?_
                        clear hK a; intro a hK
                        refine st_skip (d := 121) hK rfl rfl rfl ?_
                        clear hK a; intro a hK
                        refine st_op (d := 122) (v' := .bool true) (vs := []) (obs := []) hK rfl (fun _ => by kernel_rfl) trivial rfl rfl rfl ?_
                        clear hK a; intro a hK
                        refine st_op (d := 123) (v' := .bool true) (vs := []) (obs := []) hK rfl (fun _ => by kernel_rfl) trivial rfl rfl rfl ?_
                        clear hK a; intro a hK
                        refine st_op (d := 15) (v' := .bool true) (vs := []) (obs := []) hK rfl (fun _ => by kernel_rfl) trivial rfl rfl rfl ?_
                        clear hK a; intro a hK
                        refine wpList_nil ?_
                        replace hK := hK.weak (K' := [(3, .int .i64 at_), (8, .pointer (some ⟨g3, 0, none⟩)), (9, .pointer (some ⟨g5, 0, none⟩)), (14, .bool false), (18, .pointer (some ⟨g26, 0, none⟩)), (20, .pointer (some ⟨g36, 0, none⟩)), (90, .slice A32 m34.length c33), (91, .int .i64 ((m34.length : Nat) : Int)), (92, .int .i64 ((k : Nat) : Int)), (15, .bool true), (93, .bool true), (94, .pointer (some ⟨b45, o46 + k * 4, none⟩)), (95, .agg #[.int .i64 x43.t.id, .int .i64 x43.t.ts, .slice x43.ra x43.t.reads.length x43.rc, .slice x43.wa x43.t.writes.length x43.wc]), (24, .pointer (some ⟨g49, 0, none⟩)), (96, .agg #[.int .i64 two.last, .slice two.sa two.st.length two.sc, .slice two.oa two.op.length two.oc]), (97, .agg #[.int .i64 M31.last, .slice M31.sa M31.st.length M31.sc, .slice M31.oa M31.op.length M31.oc]), (98, .slice (some ⟨g52, 0, none⟩) 2 2), (99, .int .i64 2), (100, .int .i64 1), (101, .bool true), (102, .pointer (some ⟨g52, 3, none⟩)), (103, .agg #[.int .i64 M31.last, .slice M31.sa M31.st.length M31.sc, .slice M31.oa M31.op.length M31.oc]), (26, .pointer (some ⟨g67, 0, none⟩)), (105, .agg #[.int .i64 M31.last, .slice M31.sa M31.st.length M31.sc, .slice M31.oa M31.op.length M31.oc]), (106, .agg #[.int .i64 t.t.id, .int .i64 t.t.ts, .slice t.ra t.t.reads.length t.rc, .slice t.wa t.t.writes.length t.wc]), (107, .agg #[.int .i64 (aroundS (IntKind.i64.wrap (at_ + later)) l1 r1).1.1, .int .i64 (aroundS (IntKind.i64.wrap (at_ + later)) l1 r1).1.2]), (108, .tuple #[.agg #[.int .i64 M70.last, .slice M70.sa M70.st.length M70.sc, .slice M70.oa M70.op.length M70.oc], .agg #[.int .i64 v71.t.id, .int .i64 v71.t.ts, .slice v71.ra v71.t.reads.length v71.rc, .slice v71.wa v71.t.writes.length v71.wc], .int .i64 (stampS M31.d t.t (aroundS (IntKind.i64.wrap (at_ + later)) l1 r1).1.1 (aroundS (IntKind.i64.wrap (at_ + later)) l1 r1).1.2).2.2]), (104, .tuple #[.agg #[.int .i64 M70.last, .slice M70.sa M70.st.length M70.sc, .slice M70.oa M70.op.length M70.oc], .agg #[.int .i64 v71.t.id, .int .i64 v71.t.ts, .slice v71.ra v71.t.reads.length v71.rc, .slice v71.wa v71.t.writes.length v71.wc], .int .i64 (stampS M31.d t.t (aroundS (IntKind.i64.wrap (at_ + later)) l1 r1).1.1 (aroundS (IntKind.i64.wrap (at_ + later)) l1 r1).1.2).2.2]), (109, .agg #[.int .i64 M70.last, .slice M70.sa M70.st.length M70.sc, .slice M70.oa M70.op.length M70.oc]), (110, .agg #[.int .i64 v71.t.id, .int .i64 v71.t.ts, .slice v71.ra v71.t.reads.length v71.rc, .slice v71.wa v71.t.writes.length v71.wc]), (111, .int .i64 (stampS M31.d t.t (aroundS (IntKind.i64.wrap (at_ + later)) l1 r1).1.1 (aroundS (IntKind.i64.wrap (at_ + later)) l1 r1).1.2).2.2), (27, .pointer (some ⟨g73, 0, none⟩)), (28, .pointer (some ⟨g75, 0, none⟩)), (29, .int .i64 (stampS M31.d t.t (aroundS (IntKind.i64.wrap (at_ + later)) l1 r1).1.1 (aroundS (IntKind.i64.wrap (at_ + later)) l1 r1).1.2).2.2), (112, .bool (decide (x43.t.ts < v58.t.ts))), (113, .bool true), (114, .int .i64 (stampS M31.d t.t (aroundS (IntKind.i64.wrap (at_ + later)) l1 r1).1.1 (aroundS (IntKind.i64.wrap (at_ + later)) l1 r1).1.2).2.2), (115, .bool (!((stampS M31.d t.t (aroundS (IntKind.i64.wrap (at_ + later)) l1 r1).1.1 (aroundS (IntKind.i64.wrap (at_ + later)) l1 r1).1.2).2.2 == 0))), (116, .bool true), (122, .bool true), (123, .bool true), (124, .int .i64 1)]) ⟨rfl, rfl, rfl, rfl, rfl, rfl, rfl, rfl, rfl, rfl, rfl, rfl, rfl, rfl, rfl, rfl, rfl, rfl, rfl, rfl, rfl, rfl, rfl, rfl, rfl, rfl, rfl, rfl, rfl, rfl, rfl, rfl, rfl, rfl, rfl, rfl, rfl, rfl, rfl, rfl, rfl, rfl, trivial⟩
                        refine xb_norm ?_
                        refine xt_norm ?_
                        refine wp_region_lit ?_
                        refine st_op (d := 124) (v' := .int .i64 2) (vs := []) (obs := []) hK rfl (fun _ => by kernel_rfl) trivial rfl rfl rfl ?_
                        clear hK a; intro a hK
                        refine st_op (d := 100) (v' := .int .i64 2) (vs := []) (obs := []) hK rfl (fun _ => by kernel_rfl) trivial rfl rfl rfl ?_
                        clear hK a; intro a hK
                        refine wpList_nil ?_
                        replace hK := hK.weak (K' := [(3, .int .i64 at_), (8, .pointer (some ⟨g3, 0, none⟩)), (9, .pointer (some ⟨g5, 0, none⟩)), (14, .bool false), (18, .pointer (some ⟨g26, 0, none⟩)), (20, .pointer (some ⟨g36, 0, none⟩)), (90, .slice A32 m34.length c33), (91, .int .i64 ((m34.length : Nat) : Int)), (92, .int .i64 ((k : Nat) : Int)), (15, .bool true), (93, .bool true), (94, .pointer (some ⟨b45, o46 + k * 4, none⟩)), (95, .agg #[.int .i64 x43.t.id, .int .i64 x43.t.ts, .slice x43.ra x43.t.reads.length x43.rc, .slice x43.wa x43.t.writes.length x43.wc]), (24, .pointer (some ⟨g49, 0, none⟩)), (96, .agg #[.int .i64 two.last, .slice two.sa two.st.length two.sc, .slice two.oa two.op.length two.oc]), (97, .agg #[.int .i64 M31.last, .slice M31.sa M31.st.length M31.sc, .slice M31.oa M31.op.length M31.oc]), (98, .slice (some ⟨g52, 0, none⟩) 2 2), (99, .int .i64 2), (100, .int .i64 2), (101, .bool true), (102, .pointer (some ⟨g52, 3, none⟩)), (103, .agg #[.int .i64 M31.last, .slice M31.sa M31.st.length M31.sc, .slice M31.oa M31.op.length M31.oc]), (26, .pointer (some ⟨g67, 0, none⟩)), (105, .agg #[.int .i64 M31.last, .slice M31.sa M31.st.length M31.sc, .slice M31.oa M31.op.length M31.oc]), (106, .agg #[.int .i64 t.t.id, .int .i64 t.t.ts, .slice t.ra t.t.reads.length t.rc, .slice t.wa t.t.writes.length t.wc]), (107, .agg #[.int .i64 (aroundS (IntKind.i64.wrap (at_ + later)) l1 r1).1.1, .int .i64 (aroundS (IntKind.i64.wrap (at_ + later)) l1 r1).1.2]), (108, .tuple #[.agg #[.int .i64 M70.last, .slice M70.sa M70.st.length M70.sc, .slice M70.oa M70.op.length M70.oc], .agg #[.int .i64 v71.t.id, .int .i64 v71.t.ts, .slice v71.ra v71.t.reads.length v71.rc, .slice v71.wa v71.t.writes.length v71.wc], .int .i64 (stampS M31.d t.t (aroundS (IntKind.i64.wrap (at_ + later)) l1 r1).1.1 (aroundS (IntKind.i64.wrap (at_ + later)) l1 r1).1.2).2.2]), (104, .tuple #[.agg #[.int .i64 M70.last, .slice M70.sa M70.st.length M70.sc, .slice M70.oa M70.op.length M70.oc], .agg #[.int .i64 v71.t.id, .int .i64 v71.t.ts, .slice v71.ra v71.t.reads.length v71.rc, .slice v71.wa v71.t.writes.length v71.wc], .int .i64 (stampS M31.d t.t (aroundS (IntKind.i64.wrap (at_ + later)) l1 r1).1.1 (aroundS (IntKind.i64.wrap (at_ + later)) l1 r1).1.2).2.2]), (109, .agg #[.int .i64 M70.last, .slice M70.sa M70.st.length M70.sc, .slice M70.oa M70.op.length M70.oc]), (110, .agg #[.int .i64 v71.t.id, .int .i64 v71.t.ts, .slice v71.ra v71.t.reads.length v71.rc, .slice v71.wa v71.t.writes.length v71.wc]), (111, .int .i64 (stampS M31.d t.t (aroundS (IntKind.i64.wrap (at_ + later)) l1 r1).1.1 (aroundS (IntKind.i64.wrap (at_ + later)) l1 r1).1.2).2.2), (27, .pointer (some ⟨g73, 0, none⟩)), (28, .pointer (some ⟨g75, 0, none⟩)), (29, .int .i64 (stampS M31.d t.t (aroundS (IntKind.i64.wrap (at_ + later)) l1 r1).1.1 (aroundS (IntKind.i64.wrap (at_ + later)) l1 r1).1.2).2.2), (112, .bool (decide (x43.t.ts < v58.t.ts))), (113, .bool true), (114, .int .i64 (stampS M31.d t.t (aroundS (IntKind.i64.wrap (at_ + later)) l1 r1).1.1 (aroundS (IntKind.i64.wrap (at_ + later)) l1 r1).1.2).2.2), (115, .bool (!((stampS M31.d t.t (aroundS (IntKind.i64.wrap (at_ + later)) l1 r1).1.1 (aroundS (IntKind.i64.wrap (at_ + later)) l1 r1).1.2).2.2 == 0))), (116, .bool true), (122, .bool true), (123, .bool true), (124, .int .i64 2)]) ⟨rfl, rfl, rfl, rfl, rfl, rfl, rfl, rfl, rfl, rfl, rfl, rfl, rfl, rfl, rfl, rfl, rfl, rfl, rfl, rfl, rfl, rfl, rfl, rfl, rfl, rfl, rfl, rfl, rfl, rfl, rfl, rfl, rfl, rfl, rfl, rfl, rfl, rfl, rfl, rfl, rfl, rfl, trivial⟩
                        refine xt_norm ?_
                        refine vc_round ?_
                        refine wp_seq ?_
                        refine wp_region_lit ?_
                        refine st_op (d := 101) (v' := .bool false) (vs := []) (obs := []) hK rfl (fun _ => by kernel_rfl) trivial rfl rfl rfl ?_
                        clear hK a; intro a hK
                        refine wpList_nil ?_
                        replace hK := hK.weak (K' := [(3, .int .i64 at_), (8, .pointer (some ⟨g3, 0, none⟩)), (9, .pointer (some ⟨g5, 0, none⟩)), (14, .bool false), (18, .pointer (some ⟨g26, 0, none⟩)), (20, .pointer (some ⟨g36, 0, none⟩)), (90, .slice A32 m34.length c33), (91, .int .i64 ((m34.length : Nat) : Int)), (92, .int .i64 ((k : Nat) : Int)), (15, .bool true), (93, .bool true), (94, .pointer (some ⟨b45, o46 + k * 4, none⟩)), (95, .agg #[.int .i64 x43.t.id, .int .i64 x43.t.ts, .slice x43.ra x43.t.reads.length x43.rc, .slice x43.wa x43.t.writes.length x43.wc]), (24, .pointer (some ⟨g49, 0, none⟩)), (96, .agg #[.int .i64 two.last, .slice two.sa two.st.length two.sc, .slice two.oa two.op.length two.oc]), (97, .agg #[.int .i64 M31.last, .slice M31.sa M31.st.length M31.sc, .slice M31.oa M31.op.length M31.oc]), (98, .slice (some ⟨g52, 0, none⟩) 2 2), (99, .int .i64 2), (100, .int .i64 2), (101, .bool false), (102, .pointer (some ⟨g52, 3, none⟩)), (103, .agg #[.int .i64 M31.last, .slice M31.sa M31.st.length M31.sc, .slice M31.oa M31.op.length M31.oc]), (26, .pointer (some ⟨g67, 0, none⟩)), (105, .agg #[.int .i64 M31.last, .slice M31.sa M31.st.length M31.sc, .slice M31.oa M31.op.length M31.oc]), (106, .agg #[.int .i64 t.t.id, .int .i64 t.t.ts, .slice t.ra t.t.reads.length t.rc, .slice t.wa t.t.writes.length t.wc]), (107, .agg #[.int .i64 (aroundS (IntKind.i64.wrap (at_ + later)) l1 r1).1.1, .int .i64 (aroundS (IntKind.i64.wrap (at_ + later)) l1 r1).1.2]), (108, .tuple #[.agg #[.int .i64 M70.last, .slice M70.sa M70.st.length M70.sc, .slice M70.oa M70.op.length M70.oc], .agg #[.int .i64 v71.t.id, .int .i64 v71.t.ts, .slice v71.ra v71.t.reads.length v71.rc, .slice v71.wa v71.t.writes.length v71.wc], .int .i64 (stampS M31.d t.t (aroundS (IntKind.i64.wrap (at_ + later)) l1 r1).1.1 (aroundS (IntKind.i64.wrap (at_ + later)) l1 r1).1.2).2.2]), (104, .tuple #[.agg #[.int .i64 M70.last, .slice M70.sa M70.st.length M70.sc, .slice M70.oa M70.op.length M70.oc], .agg #[.int .i64 v71.t.id, .int .i64 v71.t.ts, .slice v71.ra v71.t.reads.length v71.rc, .slice v71.wa v71.t.writes.length v71.wc], .int .i64 (stampS M31.d t.t (aroundS (IntKind.i64.wrap (at_ + later)) l1 r1).1.1 (aroundS (IntKind.i64.wrap (at_ + later)) l1 r1).1.2).2.2]), (109, .agg #[.int .i64 M70.last, .slice M70.sa M70.st.length M70.sc, .slice M70.oa M70.op.length M70.oc]), (110, .agg #[.int .i64 v71.t.id, .int .i64 v71.t.ts, .slice v71.ra v71.t.reads.length v71.rc, .slice v71.wa v71.t.writes.length v71.wc]), (111, .int .i64 (stampS M31.d t.t (aroundS (IntKind.i64.wrap (at_ + later)) l1 r1).1.1 (aroundS (IntKind.i64.wrap (at_ + later)) l1 r1).1.2).2.2), (27, .pointer (some ⟨g73, 0, none⟩)), (28, .pointer (some ⟨g75, 0, none⟩)), (29, .int .i64 (stampS M31.d t.t (aroundS (IntKind.i64.wrap (at_ + later)) l1 r1).1.1 (aroundS (IntKind.i64.wrap (at_ + later)) l1 r1).1.2).2.2), (112, .bool (decide (x43.t.ts < v58.t.ts))), (113, .bool true), (114, .int .i64 (stampS M31.d t.t (aroundS (IntKind.i64.wrap (at_ + later)) l1 r1).1.1 (aroundS (IntKind.i64.wrap (at_ + later)) l1 r1).1.2).2.2), (115, .bool (!((stampS M31.d t.t (aroundS (IntKind.i64.wrap (at_ + later)) l1 r1).1.1 (aroundS (IntKind.i64.wrap (at_ + later)) l1 r1).1.2).2.2 == 0))), (116, .bool true), (122, .bool true), (123, .bool true), (124, .int .i64 2)]) ⟨rfl, rfl, rfl, rfl, rfl, rfl, rfl, rfl, rfl, rfl, rfl, rfl, rfl, rfl, rfl, rfl, rfl, rfl, rfl, rfl, rfl, rfl, rfl, rfl, rfl, rfl, rfl, rfl, rfl, rfl, rfl, rfl, rfl, rfl, rfl, rfl, rfl, rfl, rfl, rfl, rfl, rfl, trivial⟩
                        refine xt_norm ?_
                        refine wp_seq ?_
                        refine vc_cond (t := false) hK (fun _ => rfl) ?_
                        rw [if_neg (by simp)]
                        refine wp_exit ?_
                        refine xt_exit ?_
                        refine xt_exit ?_
                        refine xb_hit ?_
                        refine xt_norm ?_
                        refine wp_region_lit ?_
                        refine st_op (d := 125) (v' := .bool true) (vs := []) (obs := []) hK rfl (fun _ => by kernel_rfl) trivial rfl rfl rfl ?_
                        clear hK a; intro a hK
                        refine st_op (d := 126) (v' := .bool true) (vs := []) (obs := []) hK rfl (fun _ => by kernel_rfl) trivial rfl rfl rfl ?_
                        clear hK a; intro a hK
                        refine st_op (d := 127) (v' := .pointer (some ⟨g49, 1, none⟩)) (vs := []) (obs := []) hK rfl (fun _ => by kernel_rfl) trivial rfl rfl rfl ?_
                        clear hK a; intro a hK
                        refine st_op (d := 128) (v' := .int .i64 x43.t.ts) (vs := [.int .i64 x43.t.ts]) (obs := [(⟨g49, 1, none⟩, .int .i64 x43.t.ts)]) hK rfl (fun _ => by kernel_rfl) ⟨((hE.blk 11 rfl).cell 1).trans rfl, trivial⟩ rfl rfl rfl ?_
                        clear hK a; intro a hK
                        refine st_op (d := 129) (v' := .int .i64 at_) (vs := []) (obs := []) hK rfl (fun _ => by kernel_rfl) trivial rfl rfl rfl ?_
                        clear hK a; intro a hK
                        refine st_op (d := 130) (v' := .bool (decide (x43.t.ts < at_))) (vs := []) (obs := []) hK rfl (fun _ => by kernel_rfl) trivial rfl rfl rfl ?_
                        clear hK a; intro a hK
                        refine st_op (d := 131) (v' := .bool (decide (x43.t.ts < at_))) (vs := []) (obs := []) hK rfl (fun _ => by kernel_rfl) trivial rfl rfl rfl ?_
                        clear hK a; intro a hK
                        refine st_op (d := 15) (v' := .bool (decide (x43.t.ts < at_))) (vs := []) (obs := []) hK rfl (fun _ => by kernel_rfl) trivial rfl rfl rfl ?_
                        clear hK a; intro a hK
                        refine wpList_nil ?_
                        replace hK := hK.weak (K' := [(3, .int .i64 at_), (8, .pointer (some ⟨g3, 0, none⟩)), (9, .pointer (some ⟨g5, 0, none⟩)), (14, .bool false), (18, .pointer (some ⟨g26, 0, none⟩)), (20, .pointer (some ⟨g36, 0, none⟩)), (90, .slice A32 m34.length c33), (91, .int .i64 ((m34.length : Nat) : Int)), (92, .int .i64 ((k : Nat) : Int)), (15, .bool (decide (x43.t.ts < at_))), (93, .bool true), (94, .pointer (some ⟨b45, o46 + k * 4, none⟩)), (95, .agg #[.int .i64 x43.t.id, .int .i64 x43.t.ts, .slice x43.ra x43.t.reads.length x43.rc, .slice x43.wa x43.t.writes.length x43.wc]), (24, .pointer (some ⟨g49, 0, none⟩)), (96, .agg #[.int .i64 two.last, .slice two.sa two.st.length two.sc, .slice two.oa two.op.length two.oc]), (97, .agg #[.int .i64 M31.last, .slice M31.sa M31.st.length M31.sc, .slice M31.oa M31.op.length M31.oc]), (98, .slice (some ⟨g52, 0, none⟩) 2 2), (99, .int .i64 2), (100, .int .i64 2), (101, .bool false), (102, .pointer (some ⟨g52, 3, none⟩)), (103, .agg #[.int .i64 M31.last, .slice M31.sa M31.st.length M31.sc, .slice M31.oa M31.op.length M31.oc]), (26, .pointer (some ⟨g67, 0, none⟩)), (105, .agg #[.int .i64 M31.last, .slice M31.sa M31.st.length M31.sc, .slice M31.oa M31.op.length M31.oc]), (106, .agg #[.int .i64 t.t.id, .int .i64 t.t.ts, .slice t.ra t.t.reads.length t.rc, .slice t.wa t.t.writes.length t.wc]), (107, .agg #[.int .i64 (aroundS (IntKind.i64.wrap (at_ + later)) l1 r1).1.1, .int .i64 (aroundS (IntKind.i64.wrap (at_ + later)) l1 r1).1.2]), (108, .tuple #[.agg #[.int .i64 M70.last, .slice M70.sa M70.st.length M70.sc, .slice M70.oa M70.op.length M70.oc], .agg #[.int .i64 v71.t.id, .int .i64 v71.t.ts, .slice v71.ra v71.t.reads.length v71.rc, .slice v71.wa v71.t.writes.length v71.wc], .int .i64 (stampS M31.d t.t (aroundS (IntKind.i64.wrap (at_ + later)) l1 r1).1.1 (aroundS (IntKind.i64.wrap (at_ + later)) l1 r1).1.2).2.2]), (104, .tuple #[.agg #[.int .i64 M70.last, .slice M70.sa M70.st.length M70.sc, .slice M70.oa M70.op.length M70.oc], .agg #[.int .i64 v71.t.id, .int .i64 v71.t.ts, .slice v71.ra v71.t.reads.length v71.rc, .slice v71.wa v71.t.writes.length v71.wc], .int .i64 (stampS M31.d t.t (aroundS (IntKind.i64.wrap (at_ + later)) l1 r1).1.1 (aroundS (IntKind.i64.wrap (at_ + later)) l1 r1).1.2).2.2]), (109, .agg #[.int .i64 M70.last, .slice M70.sa M70.st.length M70.sc, .slice M70.oa M70.op.length M70.oc]), (110, .agg #[.int .i64 v71.t.id, .int .i64 v71.t.ts, .slice v71.ra v71.t.reads.length v71.rc, .slice v71.wa v71.t.writes.length v71.wc]), (111, .int .i64 (stampS M31.d t.t (aroundS (IntKind.i64.wrap (at_ + later)) l1 r1).1.1 (aroundS (IntKind.i64.wrap (at_ + later)) l1 r1).1.2).2.2), (27, .pointer (some ⟨g73, 0, none⟩)), (28, .pointer (some ⟨g75, 0, none⟩)), (29, .int .i64 (stampS M31.d t.t (aroundS (IntKind.i64.wrap (at_ + later)) l1 r1).1.1 (aroundS (IntKind.i64.wrap (at_ + later)) l1 r1).1.2).2.2), (112, .bool (decide (x43.t.ts < v58.t.ts))), (113, .bool true), (114, .int .i64 (stampS M31.d t.t (aroundS (IntKind.i64.wrap (at_ + later)) l1 r1).1.1 (aroundS (IntKind.i64.wrap (at_ + later)) l1 r1).1.2).2.2), (115, .bool (!((stampS M31.d t.t (aroundS (IntKind.i64.wrap (at_ + later)) l1 r1).1.1 (aroundS (IntKind.i64.wrap (at_ + later)) l1 r1).1.2).2.2 == 0))), (116, .bool true), (122, .bool true), (123, .bool true), (124, .int .i64 2), (125, .bool true), (126, .bool true), (127, .pointer (some ⟨g49, 1, none⟩)), (128, .int .i64 x43.t.ts), (129, .int .i64 at_), (130, .bool (decide (x43.t.ts < at_))), (131, .bool (decide (x43.t.ts < at_)))]) ⟨rfl, rfl, rfl, rfl, rfl, rfl, rfl, rfl, rfl, rfl, rfl, rfl, rfl, rfl, rfl, rfl, rfl, rfl, rfl, rfl, rfl, rfl, rfl, rfl, rfl, rfl, rfl, rfl, rfl, rfl, rfl, rfl, rfl, rfl, rfl, rfl, rfl, rfl, rfl, rfl, rfl, rfl, rfl, rfl, rfl, rfl, rfl, rfl, rfl, trivial⟩
                        refine xb_norm ?_
                        refine xt_norm ?_
                        refine wp_region_lit ?_
                        refine st_op (d := 132) (v' := .int .i64 (IntKind.i64.wrap (((k : Nat) : Int) + 1))) (v := .int .i64 (((k : Nat) : Int) + 1)) (vs := []) (obs := []) hK rfl (fun _ => by kernel_rfl) trivial (congrArg (Value.int .i64) (IntWalk.i64_in _ (by omega))) rfl rfl ?_
                        clear hK a; intro a hK
                        refine st_op (d := 92) (v' := .int .i64 (((k : Nat) : Int) + 1)) (vs := []) (obs := []) hK rfl (fun _ => by kernel_rfl) trivial rfl rfl rfl ?_
                        clear hK a; intro a hK
                        refine wpList_nil ?_
                        replace hK := hK.weak (K' := [(3, .int .i64 at_), (8, .pointer (some ⟨g3, 0, none⟩)), (9, .pointer (some ⟨g5, 0, none⟩)), (14, .bool false), (18, .pointer (some ⟨g26, 0, none⟩)), (20, .pointer (some ⟨g36, 0, none⟩)), (90, .slice A32 m34.length c33), (91, .int .i64 ((m34.length : Nat) : Int)), (92, .int .i64 (((k : Nat) : Int) + 1)), (15, .bool (decide (x43.t.ts < at_))), (93, .bool true), (94, .pointer (some ⟨b45, o46 + k * 4, none⟩)), (95, .agg #[.int .i64 x43.t.id, .int .i64 x43.t.ts, .slice x43.ra x43.t.reads.length x43.rc, .slice x43.wa x43.t.writes.length x43.wc]), (24, .pointer (some ⟨g49, 0, none⟩)), (96, .agg #[.int .i64 two.last, .slice two.sa two.st.length two.sc, .slice two.oa two.op.length two.oc]), (97, .agg #[.int .i64 M31.last, .slice M31.sa M31.st.length M31.sc, .slice M31.oa M31.op.length M31.oc]), (98, .slice (some ⟨g52, 0, none⟩) 2 2), (99, .int .i64 2), (100, .int .i64 2), (101, .bool false), (102, .pointer (some ⟨g52, 3, none⟩)), (103, .agg #[.int .i64 M31.last, .slice M31.sa M31.st.length M31.sc, .slice M31.oa M31.op.length M31.oc]), (26, .pointer (some ⟨g67, 0, none⟩)), (105, .agg #[.int .i64 M31.last, .slice M31.sa M31.st.length M31.sc, .slice M31.oa M31.op.length M31.oc]), (106, .agg #[.int .i64 t.t.id, .int .i64 t.t.ts, .slice t.ra t.t.reads.length t.rc, .slice t.wa t.t.writes.length t.wc]), (107, .agg #[.int .i64 (aroundS (IntKind.i64.wrap (at_ + later)) l1 r1).1.1, .int .i64 (aroundS (IntKind.i64.wrap (at_ + later)) l1 r1).1.2]), (108, .tuple #[.agg #[.int .i64 M70.last, .slice M70.sa M70.st.length M70.sc, .slice M70.oa M70.op.length M70.oc], .agg #[.int .i64 v71.t.id, .int .i64 v71.t.ts, .slice v71.ra v71.t.reads.length v71.rc, .slice v71.wa v71.t.writes.length v71.wc], .int .i64 (stampS M31.d t.t (aroundS (IntKind.i64.wrap (at_ + later)) l1 r1).1.1 (aroundS (IntKind.i64.wrap (at_ + later)) l1 r1).1.2).2.2]), (104, .tuple #[.agg #[.int .i64 M70.last, .slice M70.sa M70.st.length M70.sc, .slice M70.oa M70.op.length M70.oc], .agg #[.int .i64 v71.t.id, .int .i64 v71.t.ts, .slice v71.ra v71.t.reads.length v71.rc, .slice v71.wa v71.t.writes.length v71.wc], .int .i64 (stampS M31.d t.t (aroundS (IntKind.i64.wrap (at_ + later)) l1 r1).1.1 (aroundS (IntKind.i64.wrap (at_ + later)) l1 r1).1.2).2.2]), (109, .agg #[.int .i64 M70.last, .slice M70.sa M70.st.length M70.sc, .slice M70.oa M70.op.length M70.oc]), (110, .agg #[.int .i64 v71.t.id, .int .i64 v71.t.ts, .slice v71.ra v71.t.reads.length v71.rc, .slice v71.wa v71.t.writes.length v71.wc]), (111, .int .i64 (stampS M31.d t.t (aroundS (IntKind.i64.wrap (at_ + later)) l1 r1).1.1 (aroundS (IntKind.i64.wrap (at_ + later)) l1 r1).1.2).2.2), (27, .pointer (some ⟨g73, 0, none⟩)), (28, .pointer (some ⟨g75, 0, none⟩)), (29, .int .i64 (stampS M31.d t.t (aroundS (IntKind.i64.wrap (at_ + later)) l1 r1).1.1 (aroundS (IntKind.i64.wrap (at_ + later)) l1 r1).1.2).2.2), (112, .bool (decide (x43.t.ts < v58.t.ts))), (113, .bool true), (114, .int .i64 (stampS M31.d t.t (aroundS (IntKind.i64.wrap (at_ + later)) l1 r1).1.1 (aroundS (IntKind.i64.wrap (at_ + later)) l1 r1).1.2).2.2), (115, .bool (!((stampS M31.d t.t (aroundS (IntKind.i64.wrap (at_ + later)) l1 r1).1.1 (aroundS (IntKind.i64.wrap (at_ + later)) l1 r1).1.2).2.2 == 0))), (116, .bool true), (122, .bool true), (123, .bool true), (124, .int .i64 2), (125, .bool true), (126, .bool true), (127, .pointer (some ⟨g49, 1, none⟩)), (128, .int .i64 x43.t.ts), (129, .int .i64 at_), (130, .bool (decide (x43.t.ts < at_))), (131, .bool (decide (x43.t.ts < at_))), (132, .int .i64 (((k : Nat) : Int) + 1))]) ⟨rfl, rfl, rfl, rfl, rfl, rfl, rfl, rfl, rfl, rfl, rfl, rfl, rfl, rfl, rfl, rfl, rfl, rfl, rfl, rfl, rfl, rfl, rfl, rfl, rfl, rfl, rfl, rfl, rfl, rfl, rfl, rfl, rfl, rfl, rfl, rfl, rfl, rfl, rfl, rfl, rfl, rfl, rfl, rfl, rfl, rfl, rfl, rfl, rfl, rfl, trivial⟩
                        refine xt_norm ?_
                        replace hK := hK.sub (d := 92) (v' := .int .i64 (((k + 1) : Nat) : Int)) rfl (by first | rfl | (congr 1; omega))
                        have hd83 : (decide (x43.t.ts < at_)) = true := decide_eq_true (by have h1 := shown_lt (hm31 ▸ txs_at hx44); omega)
                        replace hK := hK.sub (d := 15) (v' := .bool true) rfl (congrArg Value.bool hd83)
                        refine ⟨k + 1, ⟨hK.weak ⟨rfl, rfl, rfl, rfl, rfl, rfl, rfl, rfl, rfl, rfl, trivial⟩, hE.drop (.cons _ (.cons _ (.cons _ (.cons _ (.cons _ (.cons _ (.cons _ (.cons _ (.cons _ (.cons _ (.cons _ (.cons _ (.cons _ (.cons _ (.cons_cons _ (.cons_cons _ (.cons_cons _ (.cons_cons _ (.cons_cons _ (.cons_cons _ (.cons_cons _ (.cons_cons _ (.cons_cons _ (.cons_cons _ (.cons_cons _ (.cons_cons _ (.cons_cons _ (.cons_cons _ .slnil)))))))))))))))))))))))))))), by omega, trivial⟩, by omega⟩
                    · have hc66p := ne_of_beq_false hc66
                      replace hK := hK.sub (d := 116) (v' := .bool true) rfl (congrArg (fun b => Value.bool !b) hc66)
                      refine st_skip (d := 117) hK rfl rfl rfl ?_
                      clear hK a; intro a hK
                      refine st_skip (d := 118) hK rfl rfl rfl ?_
                      clear hK a; intro a hK
                      refine st_skip (d := 119) hK rfl rfl rfl ?_
                      clear hK a; intro a hK
                      refine st_skip (d := 120) hK rfl rfl rfl ?_
                      clear hK a; intro a hK
                      refine st_skip (d := 121) hK rfl rfl rfl ?_
                      clear hK a; intro a hK
                      refine st_op (d := 122) (v' := .bool true) (vs := []) (obs := []) hK rfl (fun _ => by kernel_rfl) trivial rfl rfl rfl ?_
                      clear hK a; intro a hK
                      refine st_op (d := 123) (v' := .bool true) (vs := []) (obs := []) hK rfl (fun _ => by kernel_rfl) trivial rfl rfl rfl ?_
                      clear hK a; intro a hK
                      refine st_op (d := 15) (v' := .bool true) (vs := []) (obs := []) hK rfl (fun _ => by kernel_rfl) trivial rfl rfl rfl ?_
                      clear hK a; intro a hK
                      refine wpList_nil ?_
                      replace hK := hK.weak (K' := [(3, .int .i64 at_), (8, .pointer (some ⟨g3, 0, none⟩)), (9, .pointer (some ⟨g5, 0, none⟩)), (14, .bool false), (18, .pointer (some ⟨g26, 0, none⟩)), (20, .pointer (some ⟨g36, 0, none⟩)), (90, .slice A32 m34.length c33), (91, .int .i64 ((m34.length : Nat) : Int)), (92, .int .i64 ((k : Nat) : Int)), (15, .bool true), (93, .bool true), (94, .pointer (some ⟨b45, o46 + k * 4, none⟩)), (95, .agg #[.int .i64 x43.t.id, .int .i64 x43.t.ts, .slice x43.ra x43.t.reads.length x43.rc, .slice x43.wa x43.t.writes.length x43.wc]), (24, .pointer (some ⟨g49, 0, none⟩)), (96, .agg #[.int .i64 two.last, .slice two.sa two.st.length two.sc, .slice two.oa two.op.length two.oc]), (97, .agg #[.int .i64 M31.last, .slice M31.sa M31.st.length M31.sc, .slice M31.oa M31.op.length M31.oc]), (98, .slice (some ⟨g52, 0, none⟩) 2 2), (99, .int .i64 2), (100, .int .i64 0), (101, .bool true), (102, .pointer (some ⟨g52, 0, none⟩)), (103, .agg #[.int .i64 two.last, .slice two.sa two.st.length two.sc, .slice two.oa two.op.length two.oc]), (26, .pointer (some ⟨g54, 0, none⟩)), (105, .agg #[.int .i64 two.last, .slice two.sa two.st.length two.sc, .slice two.oa two.op.length two.oc]), (106, .agg #[.int .i64 t.t.id, .int .i64 t.t.ts, .slice t.ra t.t.reads.length t.rc, .slice t.wa t.t.writes.length t.wc]), (107, .agg #[.int .i64 (aroundS (IntKind.i64.wrap (at_ + later)) l1 r1).1.1, .int .i64 (aroundS (IntKind.i64.wrap (at_ + later)) l1 r1).1.2]), (108, .tuple #[.agg #[.int .i64 M57.last, .slice M57.sa M57.st.length M57.sc, .slice M57.oa M57.op.length M57.oc], .agg #[.int .i64 v58.t.id, .int .i64 v58.t.ts, .slice v58.ra v58.t.reads.length v58.rc, .slice v58.wa v58.t.writes.length v58.wc], .int .i64 (stampS two.d t.t (aroundS (IntKind.i64.wrap (at_ + later)) l1 r1).1.1 (aroundS (IntKind.i64.wrap (at_ + later)) l1 r1).1.2).2.2]), (104, .tuple #[.agg #[.int .i64 M57.last, .slice M57.sa M57.st.length M57.sc, .slice M57.oa M57.op.length M57.oc], .agg #[.int .i64 v58.t.id, .int .i64 v58.t.ts, .slice v58.ra v58.t.reads.length v58.rc, .slice v58.wa v58.t.writes.length v58.wc], .int .i64 (stampS two.d t.t (aroundS (IntKind.i64.wrap (at_ + later)) l1 r1).1.1 (aroundS (IntKind.i64.wrap (at_ + later)) l1 r1).1.2).2.2]), (109, .agg #[.int .i64 M57.last, .slice M57.sa M57.st.length M57.sc, .slice M57.oa M57.op.length M57.oc]), (110, .agg #[.int .i64 v58.t.id, .int .i64 v58.t.ts, .slice v58.ra v58.t.reads.length v58.rc, .slice v58.wa v58.t.writes.length v58.wc]), (111, .int .i64 (stampS two.d t.t (aroundS (IntKind.i64.wrap (at_ + later)) l1 r1).1.1 (aroundS (IntKind.i64.wrap (at_ + later)) l1 r1).1.2).2.2), (27, .pointer (some ⟨g60, 0, none⟩)), (28, .pointer (some ⟨g62, 0, none⟩)), (29, .int .i64 (stampS two.d t.t (aroundS (IntKind.i64.wrap (at_ + later)) l1 r1).1.1 (aroundS (IntKind.i64.wrap (at_ + later)) l1 r1).1.2).2.2), (112, .bool true), (113, .bool true), (114, .int .i64 (stampS two.d t.t (aroundS (IntKind.i64.wrap (at_ + later)) l1 r1).1.1 (aroundS (IntKind.i64.wrap (at_ + later)) l1 r1).1.2).2.2), (115, .bool (!((stampS two.d t.t (aroundS (IntKind.i64.wrap (at_ + later)) l1 r1).1.1 (aroundS (IntKind.i64.wrap (at_ + later)) l1 r1).1.2).2.2 == 0))), (116, .bool true), (122, .bool true), (123, .bool true)]) ⟨rfl, rfl, rfl, rfl, rfl, rfl, rfl, rfl, rfl, rfl, rfl, rfl, rfl, rfl, rfl, rfl, rfl, rfl, rfl, rfl, rfl, rfl, rfl, rfl, rfl, rfl, rfl, rfl, rfl, rfl, rfl, rfl, rfl, rfl, rfl, rfl, rfl, rfl, rfl, rfl, rfl, trivial⟩
                      refine xb_norm ?_
                      refine xt_norm ?_
                      refine wp_region_lit ?_
                      refine st_op (d := 124) (v' := .int .i64 1) (vs := []) (obs := []) hK rfl (fun _ => by kernel_rfl) trivial rfl rfl rfl ?_
                      clear hK a; intro a hK
                      refine st_op (d := 100) (v' := .int .i64 1) (vs := []) (obs := []) hK rfl (fun _ => by kernel_rfl) trivial rfl rfl rfl ?_
                      clear hK a; intro a hK
                      refine wpList_nil ?_
                      replace hK := hK.weak (K' := [(3, .int .i64 at_), (8, .pointer (some ⟨g3, 0, none⟩)), (9, .pointer (some ⟨g5, 0, none⟩)), (14, .bool false), (18, .pointer (some ⟨g26, 0, none⟩)), (20, .pointer (some ⟨g36, 0, none⟩)), (90, .slice A32 m34.length c33), (91, .int .i64 ((m34.length : Nat) : Int)), (92, .int .i64 ((k : Nat) : Int)), (15, .bool true), (93, .bool true), (94, .pointer (some ⟨b45, o46 + k * 4, none⟩)), (95, .agg #[.int .i64 x43.t.id, .int .i64 x43.t.ts, .slice x43.ra x43.t.reads.length x43.rc, .slice x43.wa x43.t.writes.length x43.wc]), (24, .pointer (some ⟨g49, 0, none⟩)), (96, .agg #[.int .i64 two.last, .slice two.sa two.st.length two.sc, .slice two.oa two.op.length two.oc]), (97, .agg #[.int .i64 M31.last, .slice M31.sa M31.st.length M31.sc, .slice M31.oa M31.op.length M31.oc]), (98, .slice (some ⟨g52, 0, none⟩) 2 2), (99, .int .i64 2), (100, .int .i64 1), (101, .bool true), (102, .pointer (some ⟨g52, 0, none⟩)), (103, .agg #[.int .i64 two.last, .slice two.sa two.st.length two.sc, .slice two.oa two.op.length two.oc]), (26, .pointer (some ⟨g54, 0, none⟩)), (105, .agg #[.int .i64 two.last, .slice two.sa two.st.length two.sc, .slice two.oa two.op.length two.oc]), (106, .agg #[.int .i64 t.t.id, .int .i64 t.t.ts, .slice t.ra t.t.reads.length t.rc, .slice t.wa t.t.writes.length t.wc]), (107, .agg #[.int .i64 (aroundS (IntKind.i64.wrap (at_ + later)) l1 r1).1.1, .int .i64 (aroundS (IntKind.i64.wrap (at_ + later)) l1 r1).1.2]), (108, .tuple #[.agg #[.int .i64 M57.last, .slice M57.sa M57.st.length M57.sc, .slice M57.oa M57.op.length M57.oc], .agg #[.int .i64 v58.t.id, .int .i64 v58.t.ts, .slice v58.ra v58.t.reads.length v58.rc, .slice v58.wa v58.t.writes.length v58.wc], .int .i64 (stampS two.d t.t (aroundS (IntKind.i64.wrap (at_ + later)) l1 r1).1.1 (aroundS (IntKind.i64.wrap (at_ + later)) l1 r1).1.2).2.2]), (104, .tuple #[.agg #[.int .i64 M57.last, .slice M57.sa M57.st.length M57.sc, .slice M57.oa M57.op.length M57.oc], .agg #[.int .i64 v58.t.id, .int .i64 v58.t.ts, .slice v58.ra v58.t.reads.length v58.rc, .slice v58.wa v58.t.writes.length v58.wc], .int .i64 (stampS two.d t.t (aroundS (IntKind.i64.wrap (at_ + later)) l1 r1).1.1 (aroundS (IntKind.i64.wrap (at_ + later)) l1 r1).1.2).2.2]), (109, .agg #[.int .i64 M57.last, .slice M57.sa M57.st.length M57.sc, .slice M57.oa M57.op.length M57.oc]), (110, .agg #[.int .i64 v58.t.id, .int .i64 v58.t.ts, .slice v58.ra v58.t.reads.length v58.rc, .slice v58.wa v58.t.writes.length v58.wc]), (111, .int .i64 (stampS two.d t.t (aroundS (IntKind.i64.wrap (at_ + later)) l1 r1).1.1 (aroundS (IntKind.i64.wrap (at_ + later)) l1 r1).1.2).2.2), (27, .pointer (some ⟨g60, 0, none⟩)), (28, .pointer (some ⟨g62, 0, none⟩)), (29, .int .i64 (stampS two.d t.t (aroundS (IntKind.i64.wrap (at_ + later)) l1 r1).1.1 (aroundS (IntKind.i64.wrap (at_ + later)) l1 r1).1.2).2.2), (112, .bool true), (113, .bool true), (114, .int .i64 (stampS two.d t.t (aroundS (IntKind.i64.wrap (at_ + later)) l1 r1).1.1 (aroundS (IntKind.i64.wrap (at_ + later)) l1 r1).1.2).2.2), (115, .bool (!((stampS two.d t.t (aroundS (IntKind.i64.wrap (at_ + later)) l1 r1).1.1 (aroundS (IntKind.i64.wrap (at_ + later)) l1 r1).1.2).2.2 == 0))), (116, .bool true), (122, .bool true), (123, .bool true), (124, .int .i64 1)]) ⟨rfl, rfl, rfl, rfl, rfl, rfl, rfl, rfl, rfl, rfl, rfl, rfl, rfl, rfl, rfl, rfl, rfl, rfl, rfl, rfl, rfl, rfl, rfl, rfl, rfl, rfl, rfl, rfl, rfl, rfl, rfl, rfl, rfl, rfl, rfl, rfl, rfl, rfl, rfl, rfl, rfl, rfl, trivial⟩
                      refine xt_norm ?_
                      refine vc_round ?_
                      refine wp_seq ?_
                      refine wp_region_lit ?_
                      refine st_op (d := 101) (v' := .bool true) (vs := []) (obs := []) hK rfl (fun _ => by kernel_rfl) trivial rfl rfl rfl ?_
                      clear hK a; intro a hK
                      refine wpList_nil ?_
                      replace hK := hK.weak (K' := [(3, .int .i64 at_), (8, .pointer (some ⟨g3, 0, none⟩)), (9, .pointer (some ⟨g5, 0, none⟩)), (14, .bool false), (18, .pointer (some ⟨g26, 0, none⟩)), (20, .pointer (some ⟨g36, 0, none⟩)), (90, .slice A32 m34.length c33), (91, .int .i64 ((m34.length : Nat) : Int)), (92, .int .i64 ((k : Nat) : Int)), (15, .bool true), (93, .bool true), (94, .pointer (some ⟨b45, o46 + k * 4, none⟩)), (95, .agg #[.int .i64 x43.t.id, .int .i64 x43.t.ts, .slice x43.ra x43.t.reads.length x43.rc, .slice x43.wa x43.t.writes.length x43.wc]), (24, .pointer (some ⟨g49, 0, none⟩)), (96, .agg #[.int .i64 two.last, .slice two.sa two.st.length two.sc, .slice two.oa two.op.length two.oc]), (97, .agg #[.int .i64 M31.last, .slice M31.sa M31.st.length M31.sc, .slice M31.oa M31.op.length M31.oc]), (98, .slice (some ⟨g52, 0, none⟩) 2 2), (99, .int .i64 2), (100, .int .i64 1), (101, .bool true), (102, .pointer (some ⟨g52, 0, none⟩)), (103, .agg #[.int .i64 two.last, .slice two.sa two.st.length two.sc, .slice two.oa two.op.length two.oc]), (26, .pointer (some ⟨g54, 0, none⟩)), (105, .agg #[.int .i64 two.last, .slice two.sa two.st.length two.sc, .slice two.oa two.op.length two.oc]), (106, .agg #[.int .i64 t.t.id, .int .i64 t.t.ts, .slice t.ra t.t.reads.length t.rc, .slice t.wa t.t.writes.length t.wc]), (107, .agg #[.int .i64 (aroundS (IntKind.i64.wrap (at_ + later)) l1 r1).1.1, .int .i64 (aroundS (IntKind.i64.wrap (at_ + later)) l1 r1).1.2]), (108, .tuple #[.agg #[.int .i64 M57.last, .slice M57.sa M57.st.length M57.sc, .slice M57.oa M57.op.length M57.oc], .agg #[.int .i64 v58.t.id, .int .i64 v58.t.ts, .slice v58.ra v58.t.reads.length v58.rc, .slice v58.wa v58.t.writes.length v58.wc], .int .i64 (stampS two.d t.t (aroundS (IntKind.i64.wrap (at_ + later)) l1 r1).1.1 (aroundS (IntKind.i64.wrap (at_ + later)) l1 r1).1.2).2.2]), (104, .tuple #[.agg #[.int .i64 M57.last, .slice M57.sa M57.st.length M57.sc, .slice M57.oa M57.op.length M57.oc], .agg #[.int .i64 v58.t.id, .int .i64 v58.t.ts, .slice v58.ra v58.t.reads.length v58.rc, .slice v58.wa v58.t.writes.length v58.wc], .int .i64 (stampS two.d t.t (aroundS (IntKind.i64.wrap (at_ + later)) l1 r1).1.1 (aroundS (IntKind.i64.wrap (at_ + later)) l1 r1).1.2).2.2]), (109, .agg #[.int .i64 M57.last, .slice M57.sa M57.st.length M57.sc, .slice M57.oa M57.op.length M57.oc]), (110, .agg #[.int .i64 v58.t.id, .int .i64 v58.t.ts, .slice v58.ra v58.t.reads.length v58.rc, .slice v58.wa v58.t.writes.length v58.wc]), (111, .int .i64 (stampS two.d t.t (aroundS (IntKind.i64.wrap (at_ + later)) l1 r1).1.1 (aroundS (IntKind.i64.wrap (at_ + later)) l1 r1).1.2).2.2), (27, .pointer (some ⟨g60, 0, none⟩)), (28, .pointer (some ⟨g62, 0, none⟩)), (29, .int .i64 (stampS two.d t.t (aroundS (IntKind.i64.wrap (at_ + later)) l1 r1).1.1 (aroundS (IntKind.i64.wrap (at_ + later)) l1 r1).1.2).2.2), (112, .bool true), (113, .bool true), (114, .int .i64 (stampS two.d t.t (aroundS (IntKind.i64.wrap (at_ + later)) l1 r1).1.1 (aroundS (IntKind.i64.wrap (at_ + later)) l1 r1).1.2).2.2), (115, .bool (!((stampS two.d t.t (aroundS (IntKind.i64.wrap (at_ + later)) l1 r1).1.1 (aroundS (IntKind.i64.wrap (at_ + later)) l1 r1).1.2).2.2 == 0))), (116, .bool true), (122, .bool true), (123, .bool true), (124, .int .i64 1)]) ⟨rfl, rfl, rfl, rfl, rfl, rfl, rfl, rfl, rfl, rfl, rfl, rfl, rfl, rfl, rfl, rfl, rfl, rfl, rfl, rfl, rfl, rfl, rfl, rfl, rfl, rfl, rfl, rfl, rfl, rfl, rfl, rfl, rfl, rfl, rfl, rfl, rfl, rfl, rfl, rfl, rfl, rfl, trivial⟩
                      refine xt_norm ?_
                      refine wp_seq ?_
                      refine vc_cond (t := true) hK (fun _ => rfl) ?_
                      rw [if_pos rfl]
                      refine wp_skip ?_
                      refine xt_norm ?_
                      refine wp_seq ?_
                      refine wp_block ?_
                      refine wp_seq ?_
                      refine wp_region_lit ?_
                      refine st_ix (d := 102) (j := 1) (m := 3) hK rfl rfl (fun _ => rfl) (fun _ => rfl) (by omega) (by omega) Try.underlying54 rfl rfl rfl rfl ?_
                      clear hK a; intro a hK
                      refine st_op (d := 103) (v' := .agg #[.int .i64 M31.last, .slice M31.sa M31.st.length M31.sc, .slice M31.oa M31.op.length M31.oc]) (vs := [.int .i64 M31.last, .slice M31.sa M31.st.length M31.sc, .slice M31.oa M31.op.length M31.oc]) (obs := [(⟨g52, 3, none⟩, .int .i64 M31.last), (⟨g52, 4, none⟩, .slice M31.sa M31.st.length M31.sc), (⟨g52, 5, none⟩, .slice M31.oa M31.op.length M31.oc)]) hK rfl (fun _ => by kernel_rfl) ⟨((hE.blk 5 rfl).cell 3).trans rfl, ((hE.blk 5 rfl).cell 4).trans rfl, ((hE.blk 5 rfl).cell 5).trans rfl, trivial⟩ rfl rfl rfl ?_
                      clear hK a; intro a hK
                      refine st_new (d := 26) (v := fun g => .pointer (some ⟨g, 0, none⟩)) (cs := #[.int .i64 0, .slice none 0 0, .slice none 0 0]) (t := 25) hK hE rfl (fun _ _ => by kernel_rfl) rfl rfl ?_
                      clear hK hE a; intro a g84 w85 _ _ hK hE
                      refine st_store2 0 [(0, .int .i64 M31.last), (1, .slice M31.sa M31.st.length M31.sc), (2, .slice M31.oa M31.op.length M31.oc)] hK hE rfl rfl (fun _ => by kernel_rfl) rfl rfl rfl ?_
                      clear hE; intro w86 hs_ hk_ hE
                      clear hs_ hk_
                      refine wpList_nil ?_
                      replace hK := hK.weak (K' := [(3, .int .i64 at_), (8, .pointer (some ⟨g3, 0, none⟩)), (9, .pointer (some ⟨g5, 0, none⟩)), (14, .bool false), (18, .pointer (some ⟨g26, 0, none⟩)), (20, .pointer (some ⟨g36, 0, none⟩)), (90, .slice A32 m34.length c33), (91, .int .i64 ((m34.length : Nat) : Int)), (92, .int .i64 ((k : Nat) : Int)), (15, .bool true), (93, .bool true), (94, .pointer (some ⟨b45, o46 + k * 4, none⟩)), (95, .agg #[.int .i64 x43.t.id, .int .i64 x43.t.ts, .slice x43.ra x43.t.reads.length x43.rc, .slice x43.wa x43.t.writes.length x43.wc]), (24, .pointer (some ⟨g49, 0, none⟩)), (96, .agg #[.int .i64 two.last, .slice two.sa two.st.length two.sc, .slice two.oa two.op.length two.oc]), (97, .agg #[.int .i64 M31.last, .slice M31.sa M31.st.length M31.sc, .slice M31.oa M31.op.length M31.oc]), (98, .slice (some ⟨g52, 0, none⟩) 2 2), (99, .int .i64 2), (100, .int .i64 1), (101, .bool true), (102, .pointer (some ⟨g52, 3, none⟩)), (103, .agg #[.int .i64 M31.last, .slice M31.sa M31.st.length M31.sc, .slice M31.oa M31.op.length M31.oc]), (26, .pointer (some ⟨g84, 0, none⟩)), (105, .agg #[.int .i64 two.last, .slice two.sa two.st.length two.sc, .slice two.oa two.op.length two.oc]), (106, .agg #[.int .i64 t.t.id, .int .i64 t.t.ts, .slice t.ra t.t.reads.length t.rc, .slice t.wa t.t.writes.length t.wc]), (107, .agg #[.int .i64 (aroundS (IntKind.i64.wrap (at_ + later)) l1 r1).1.1, .int .i64 (aroundS (IntKind.i64.wrap (at_ + later)) l1 r1).1.2]), (108, .tuple #[.agg #[.int .i64 M57.last, .slice M57.sa M57.st.length M57.sc, .slice M57.oa M57.op.length M57.oc], .agg #[.int .i64 v58.t.id, .int .i64 v58.t.ts, .slice v58.ra v58.t.reads.length v58.rc, .slice v58.wa v58.t.writes.length v58.wc], .int .i64 (stampS two.d t.t (aroundS (IntKind.i64.wrap (at_ + later)) l1 r1).1.1 (aroundS (IntKind.i64.wrap (at_ + later)) l1 r1).1.2).2.2]), (104, .tuple #[.agg #[.int .i64 M57.last, .slice M57.sa M57.st.length M57.sc, .slice M57.oa M57.op.length M57.oc], .agg #[.int .i64 v58.t.id, .int .i64 v58.t.ts, .slice v58.ra v58.t.reads.length v58.rc, .slice v58.wa v58.t.writes.length v58.wc], .int .i64 (stampS two.d t.t (aroundS (IntKind.i64.wrap (at_ + later)) l1 r1).1.1 (aroundS (IntKind.i64.wrap (at_ + later)) l1 r1).1.2).2.2]), (109, .agg #[.int .i64 M57.last, .slice M57.sa M57.st.length M57.sc, .slice M57.oa M57.op.length M57.oc]), (110, .agg #[.int .i64 v58.t.id, .int .i64 v58.t.ts, .slice v58.ra v58.t.reads.length v58.rc, .slice v58.wa v58.t.writes.length v58.wc]), (111, .int .i64 (stampS two.d t.t (aroundS (IntKind.i64.wrap (at_ + later)) l1 r1).1.1 (aroundS (IntKind.i64.wrap (at_ + later)) l1 r1).1.2).2.2), (27, .pointer (some ⟨g60, 0, none⟩)), (28, .pointer (some ⟨g62, 0, none⟩)), (29, .int .i64 (stampS two.d t.t (aroundS (IntKind.i64.wrap (at_ + later)) l1 r1).1.1 (aroundS (IntKind.i64.wrap (at_ + later)) l1 r1).1.2).2.2), (112, .bool true), (113, .bool true), (114, .int .i64 (stampS two.d t.t (aroundS (IntKind.i64.wrap (at_ + later)) l1 r1).1.1 (aroundS (IntKind.i64.wrap (at_ + later)) l1 r1).1.2).2.2), (115, .bool (!((stampS two.d t.t (aroundS (IntKind.i64.wrap (at_ + later)) l1 r1).1.1 (aroundS (IntKind.i64.wrap (at_ + later)) l1 r1).1.2).2.2 == 0))), (116, .bool true), (122, .bool true), (123, .bool true), (124, .int .i64 1)]) ⟨rfl, rfl, rfl, rfl, rfl, rfl, rfl, rfl, rfl, rfl, rfl, rfl, rfl, rfl, rfl, rfl, rfl, rfl, rfl, rfl, rfl, rfl, rfl, rfl, rfl, rfl, rfl, rfl, rfl, rfl, rfl, rfl, rfl, rfl, rfl, rfl, rfl, rfl, rfl, rfl, rfl, rfl, trivial⟩
                      refine xt_norm ?_
                      refine wp_seq ?_
                      refine wp_region_lit ?_
                      refine st_op (d := 105) (v' := .agg #[.int .i64 M31.last, .slice M31.sa M31.st.length M31.sc, .slice M31.oa M31.op.length M31.oc]) (vs := [.int .i64 M31.last, .slice M31.sa M31.st.length M31.sc, .slice M31.oa M31.op.length M31.oc]) (obs := [(⟨g84, 0, none⟩, .int .i64 M31.last), (⟨g84, 1, none⟩, .slice M31.sa M31.st.length M31.sc), (⟨g84, 2, none⟩, .slice M31.oa M31.op.length M31.oc)]) hK rfl (fun _ => by kernel_rfl) ⟨((hE.blk 0 rfl).cell 0).trans rfl, ((hE.blk 0 rfl).cell 1).trans rfl, ((hE.blk 0 rfl).cell 2).trans rfl, trivial⟩ rfl rfl rfl ?_
                      clear hK a; intro a hK
                      refine st_op (d := 106) (v' := .agg #[.int .i64 t.t.id, .int .i64 t.t.ts, .slice t.ra t.t.reads.length t.rc, .slice t.wa t.t.writes.length t.wc]) (vs := [.int .i64 t.t.id, .int .i64 t.t.ts, .slice t.ra t.t.reads.length t.rc, .slice t.wa t.t.writes.length t.wc]) (obs := [(⟨g5, 0, none⟩, .int .i64 t.t.id), (⟨g5, 1, none⟩, .int .i64 t.t.ts), (⟨g5, 2, none⟩, .slice t.ra t.t.reads.length t.rc), (⟨g5, 3, none⟩, .slice t.wa t.t.writes.length t.wc)]) hK rfl (fun _ => by kernel_rfl) ⟨((hE.blk 18 rfl).cell 0).trans rfl, ((hE.blk 18 rfl).cell 1).trans rfl, ((hE.blk 18 rfl).cell 2).trans rfl, ((hE.blk 18 rfl).cell 3).trans rfl, trivial⟩ rfl rfl rfl ?_
                      clear hK a; intro a hK
                      refine st_op (d := 107) (v' := .agg #[.int .i64 (aroundS (IntKind.i64.wrap (at_ + later)) l1 r1).1.1, .int .i64 (aroundS (IntKind.i64.wrap (at_ + later)) l1 r1).1.2]) (vs := [.int .i64 (aroundS (IntKind.i64.wrap (at_ + later)) l1 r1).1.1, .int .i64 (aroundS (IntKind.i64.wrap (at_ + later)) l1 r1).1.2]) (obs := [(⟨g26, 0, none⟩, .int .i64 (aroundS (IntKind.i64.wrap (at_ + later)) l1 r1).1.1), (⟨g26, 1, none⟩, .int .i64 (aroundS (IntKind.i64.wrap (at_ + later)) l1 r1).1.2)]) hK rfl (fun _ => by kernel_rfl) ⟨((hE.blk 13 rfl).cell 0).trans rfl, ((hE.blk 13 rfl).cell 1).trans rfl, trivial⟩ rfl rfl rfl ?_
                      clear hK a; intro a hK
                      refine st_call (d := 108) (f := 13) (args := #[.agg #[.int .i64 M31.last, .slice M31.sa M31.st.length M31.sc, .slice M31.oa M31.op.length M31.oc], .agg #[.int .i64 t.t.id, .int .i64 t.t.ts, .slice t.ra t.t.reads.length t.rc, .slice t.wa t.t.writes.length t.wc], .agg #[.int .i64 (aroundS (IntKind.i64.wrap (at_ + later)) l1 r1).1.1, .int .i64 (aroundS (IntKind.i64.wrap (at_ + later)) l1 r1).1.2]]) hK rfl (fun _ => by kernel_rfl) rfl rfl (stamp_anyF M31 t (aroundS (IntKind.i64.wrap (at_ + later)) l1 r1).1.1 (aroundS (IntKind.i64.wrap (at_ + later)) l1 r1).1.2 _ hLSM31 hsmt (hE.get 12 rfl) (hE.get 21 rfl)) ?_
                      rintro e w89 ⟨M87, v88, rfl, hM87, hv87, hl87, hx87, hfr87, hb⟩
                      refine ⟨_, rfl, ?_⟩
                      clear hK a; intro a hK
                      replace hE := hE.call hb
                      clear hb
                      replace hE := hE.dat (p := fun W => LdW W M87) (fun W hW => LdW.then_ hl87 hW)
                      replace hE := hE.dat (p := fun W => TxW W v88) (fun W hW => TxW.then_ hx87 hW)
                      refine st_op (d := 104) (v' := .tuple #[.agg #[.int .i64 M87.last, .slice M87.sa M87.st.length M87.sc, .slice M87.oa M87.op.length M87.oc], .agg #[.int .i64 v88.t.id, .int .i64 v88.t.ts, .slice v88.ra v88.t.reads.length v88.rc, .slice v88.wa v88.t.writes.length v88.wc], .int .i64 (stampS M31.d t.t (aroundS (IntKind.i64.wrap (at_ + later)) l1 r1).1.1 (aroundS (IntKind.i64.wrap (at_ + later)) l1 r1).1.2).2.2]) (vs := []) (obs := []) hK rfl (fun _ => by kernel_rfl) trivial rfl rfl rfl ?_
                      clear hK a; intro a hK
                      refine st_op (d := 109) (v' := .agg #[.int .i64 M87.last, .slice M87.sa M87.st.length M87.sc, .slice M87.oa M87.op.length M87.oc]) (vs := []) (obs := []) hK rfl (fun _ => by kernel_rfl) trivial rfl rfl rfl ?_
                      clear hK a; intro a hK
                      refine st_op (d := 110) (v' := .agg #[.int .i64 v88.t.id, .int .i64 v88.t.ts, .slice v88.ra v88.t.reads.length v88.rc, .slice v88.wa v88.t.writes.length v88.wc]) (vs := []) (obs := []) hK rfl (fun _ => by kernel_rfl) trivial rfl rfl rfl ?_
                      clear hK a; intro a hK
                      refine st_op (d := 111) (v' := .int .i64 (stampS M31.d t.t (aroundS (IntKind.i64.wrap (at_ + later)) l1 r1).1.1 (aroundS (IntKind.i64.wrap (at_ + later)) l1 r1).1.2).2.2) (vs := []) (obs := []) hK rfl (fun _ => by kernel_rfl) trivial rfl rfl rfl ?_
                      clear hK a; intro a hK
                      refine st_new (d := 27) (v := fun g => .pointer (some ⟨g, 0, none⟩)) (cs := #[.int .i64 0, .slice none 0 0, .slice none 0 0]) (t := 25) hK hE rfl (fun _ _ => by kernel_rfl) rfl rfl ?_
                      clear hK hE a; intro a g90 w91 _ _ hK hE
                      refine st_new (d := 28) (v := fun g => .pointer (some ⟨g, 0, none⟩)) (cs := #[.int .i64 0, .int .i64 0, .slice none 0 0, .slice none 0 0]) (t := 29) hK hE rfl (fun _ _ => by kernel_rfl) rfl rfl ?_
                      clear hK hE a; intro a g92 w93 _ _ hK hE
                      refine st_store2 1 [(0, .int .i64 M87.last), (1, .slice M87.sa M87.st.length M87.sc), (2, .slice M87.oa M87.op.length M87.oc)] hK hE rfl rfl (fun _ => by kernel_rfl) rfl rfl rfl ?_
                      clear hE; intro w94 hs_ hk_ hE
                      clear hs_ hk_
                      refine st_store2 0 [(0, .int .i64 v88.t.id), (1, .int .i64 v88.t.ts), (2, .slice v88.ra v88.t.reads.length v88.rc), (3, .slice v88.wa v88.t.writes.length v88.wc)] hK hE rfl rfl (fun _ => by kernel_rfl) rfl rfl rfl ?_
                      clear hE; intro w95 hs_ hk_ hE
                      clear hs_ hk_
                      refine st_op (d := 29) (v' := .int .i64 (stampS M31.d t.t (aroundS (IntKind.i64.wrap (at_ + later)) l1 r1).1.1 (aroundS (IntKind.i64.wrap (at_ + later)) l1 r1).1.2).2.2) (vs := []) (obs := []) hK rfl (fun _ => by kernel_rfl) trivial rfl rfl rfl ?_
                      clear hK a; intro a hK
                      refine wpList_nil ?_
                      replace hK := hK.weak (K' := [(3, .int .i64 at_), (8, .pointer (some ⟨g3, 0, none⟩)), (9, .pointer (some ⟨g5, 0, none⟩)), (14, .bool false), (18, .pointer (some ⟨g26, 0, none⟩)), (20, .pointer (some ⟨g36, 0, none⟩)), (90, .slice A32 m34.length c33), (91, .int .i64 ((m34.length : Nat) : Int)), (92, .int .i64 ((k : Nat) : Int)), (15, .bool true), (93, .bool true), (94, .pointer (some ⟨b45, o46 + k * 4, none⟩)), (95, .agg #[.int .i64 x43.t.id, .int .i64 x43.t.ts, .slice x43.ra x43.t.reads.length x43.rc, .slice x43.wa x43.t.writes.length x43.wc]), (24, .pointer (some ⟨g49, 0, none⟩)), (96, .agg #[.int .i64 two.last, .slice two.sa two.st.length two.sc, .slice two.oa two.op.length two.oc]), (97, .agg #[.int .i64 M31.last, .slice M31.sa M31.st.length M31.sc, .slice M31.oa M31.op.length M31.oc]), (98, .slice (some ⟨g52, 0, none⟩) 2 2), (99, .int .i64 2), (100, .int .i64 1), (101, .bool true), (102, .pointer (some ⟨g52, 3, none⟩)), (103, .agg #[.int .i64 M31.last, .slice M31.sa M31.st.length M31.sc, .slice M31.oa M31.op.length M31.oc]), (26, .pointer (some ⟨g84, 0, none⟩)), (105, .agg #[.int .i64 M31.last, .slice M31.sa M31.st.length M31.sc, .slice M31.oa M31.op.length M31.oc]), (106, .agg #[.int .i64 t.t.id, .int .i64 t.t.ts, .slice t.ra t.t.reads.length t.rc, .slice t.wa t.t.writes.length t.wc]), (107, .agg #[.int .i64 (aroundS (IntKind.i64.wrap (at_ + later)) l1 r1).1.1, .int .i64 (aroundS (IntKind.i64.wrap (at_ + later)) l1 r1).1.2]), (108, .tuple #[.agg #[.int .i64 M87.last, .slice M87.sa M87.st.length M87.sc, .slice M87.oa M87.op.length M87.oc], .agg #[.int .i64 v88.t.id, .int .i64 v88.t.ts, .slice v88.ra v88.t.reads.length v88.rc, .slice v88.wa v88.t.writes.length v88.wc], .int .i64 (stampS M31.d t.t (aroundS (IntKind.i64.wrap (at_ + later)) l1 r1).1.1 (aroundS (IntKind.i64.wrap (at_ + later)) l1 r1).1.2).2.2]), (104, .tuple #[.agg #[.int .i64 M87.last, .slice M87.sa M87.st.length M87.sc, .slice M87.oa M87.op.length M87.oc], .agg #[.int .i64 v88.t.id, .int .i64 v88.t.ts, .slice v88.ra v88.t.reads.length v88.rc, .slice v88.wa v88.t.writes.length v88.wc], .int .i64 (stampS M31.d t.t (aroundS (IntKind.i64.wrap (at_ + later)) l1 r1).1.1 (aroundS (IntKind.i64.wrap (at_ + later)) l1 r1).1.2).2.2]), (109, .agg #[.int .i64 M87.last, .slice M87.sa M87.st.length M87.sc, .slice M87.oa M87.op.length M87.oc]), (110, .agg #[.int .i64 v88.t.id, .int .i64 v88.t.ts, .slice v88.ra v88.t.reads.length v88.rc, .slice v88.wa v88.t.writes.length v88.wc]), (111, .int .i64 (stampS M31.d t.t (aroundS (IntKind.i64.wrap (at_ + later)) l1 r1).1.1 (aroundS (IntKind.i64.wrap (at_ + later)) l1 r1).1.2).2.2), (27, .pointer (some ⟨g90, 0, none⟩)), (28, .pointer (some ⟨g92, 0, none⟩)), (29, .int .i64 (stampS M31.d t.t (aroundS (IntKind.i64.wrap (at_ + later)) l1 r1).1.1 (aroundS (IntKind.i64.wrap (at_ + later)) l1 r1).1.2).2.2), (112, .bool true), (113, .bool true), (114, .int .i64 (stampS two.d t.t (aroundS (IntKind.i64.wrap (at_ + later)) l1 r1).1.1 (aroundS (IntKind.i64.wrap (at_ + later)) l1 r1).1.2).2.2), (115, .bool (!((stampS two.d t.t (aroundS (IntKind.i64.wrap (at_ + later)) l1 r1).1.1 (aroundS (IntKind.i64.wrap (at_ + later)) l1 r1).1.2).2.2 == 0))), (116, .bool true), (122, .bool true), (123, .bool true), (124, .int .i64 1)]) ⟨rfl, rfl, rfl, rfl, rfl, rfl, rfl, rfl, rfl, rfl, rfl, rfl, rfl, rfl, rfl, rfl, rfl, rfl, rfl, rfl, rfl, rfl, rfl, rfl, rfl, rfl, rfl, rfl, rfl, rfl, rfl, rfl, rfl, rfl, rfl, rfl, rfl, rfl, rfl, rfl, rfl, rfl, trivial⟩
                      refine xt_norm ?_
                      refine wp_region_lit ?_
                      refine st_op (d := 112) (v' := .bool true) (vs := []) (obs := []) hK rfl (fun _ => by kernel_rfl) trivial rfl rfl rfl ?_
                      clear hK a; intro a hK
                      refine st_op (d := 113) (v' := .bool true) (vs := []) (obs := []) hK rfl (fun _ => by kernel_rfl) trivial rfl rfl rfl ?_
                      clear hK a; intro a hK
                      refine st_op (d := 114) (v' := .int .i64 (stampS M31.d t.t (aroundS (IntKind.i64.wrap (at_ + later)) l1 r1).1.1 (aroundS (IntKind.i64.wrap (at_ + later)) l1 r1).1.2).2.2) (vs := []) (obs := []) hK rfl (fun _ => by kernel_rfl) trivial rfl rfl rfl ?_
                      clear hK a; intro a hK
                      refine st_op (d := 115) (v' := .bool ((stampS M31.d t.t (aroundS (IntKind.i64.wrap (at_ + later)) l1 r1).1.1 (aroundS (IntKind.i64.wrap (at_ + later)) l1 r1).1.2).2.2 != 0)) (v := .bool (!((stampS M31.d t.t (aroundS (IntKind.i64.wrap (at_ + later)) l1 r1).1.1 (aroundS (IntKind.i64.wrap (at_ + later)) l1 r1).1.2).2.2 == 0))) (vs := []) (obs := []) hK rfl (fun _ => by kernel_rfl) trivial rfl rfl rfl ?_
                      clear hK a; intro a hK
                      refine st_op (d := 116) (v' := .bool (!((stampS M31.d t.t (aroundS (IntKind.i64.wrap (at_ + later)) l1 r1).1.1 (aroundS (IntKind.i64.wrap (at_ + later)) l1 r1).1.2).2.2 == 0))) (vs := []) (obs := []) hK rfl (fun _ => by kernel_rfl) trivial rfl rfl rfl ?_
                      clear hK a; intro a hK
                      rcases Bool.eq_false_or_eq_true (((stampS M31.d t.t (aroundS (IntKind.i64.wrap (at_ + later)) l1 r1).1.1 (aroundS (IntKind.i64.wrap (at_ + later)) l1 r1).1.2).2.2 == 0)) with hc96 | hc96
                      · have hc96p := eq_of_beq hc96
                        have hri := rises_law hc96p
                        replace hK := hK.sub (d := 116) (v' := .bool false) rfl (congrArg (fun b => Value.bool !b) hc96)
                        refine st_op (d := 117) (v' := .pointer (some ⟨g49, 1, none⟩)) (vs := []) (obs := []) hK rfl (fun _ => by kernel_rfl) trivial rfl rfl rfl ?_
                        clear hK a; intro a hK
                        refine st_op (d := 118) (v' := .int .i64 x43.t.ts) (vs := [.int .i64 x43.t.ts]) (obs := [(⟨g49, 1, none⟩, .int .i64 x43.t.ts)]) hK rfl (fun _ => by kernel_rfl) ⟨((hE.blk 11 rfl).cell 1).trans rfl, trivial⟩ rfl rfl rfl ?_
                        clear hK a; intro a hK
                        refine st_op (d := 119) (v' := .pointer (some ⟨g92, 1, none⟩)) (vs := []) (obs := []) hK rfl (fun _ => by kernel_rfl) trivial rfl rfl rfl ?_
                        clear hK a; intro a hK
                        refine st_op (d := 120) (v' := .int .i64 v88.t.ts) (vs := [.int .i64 v88.t.ts]) (obs := [(⟨g92, 1, none⟩, .int .i64 v88.t.ts)]) hK rfl (fun _ => by kernel_rfl) ⟨((hE.blk 0 rfl).cell 1).trans rfl, trivial⟩ rfl rfl rfl ?_
                        clear hK a; intro a hK
                        refine st_op (d := 121) (v' := .bool (decide (x43.t.ts < v88.t.ts))) (vs := []) (obs := []) hK rfl (fun _ => by kernel_rfl) trivial rfl rfl rfl ?_
                        clear hK a; intro a hK
                        refine st_op (d := 122) (v' := .bool (decide (x43.t.ts < v88.t.ts))) (vs := []) (obs := []) hK rfl (fun _ => by kernel_rfl) trivial rfl rfl rfl ?_
                        clear hK a; intro a hK
                        refine st_op (d := 123) (v' := .bool (decide (x43.t.ts < v88.t.ts))) (vs := []) (obs := []) hK rfl (fun _ => by kernel_rfl) trivial rfl rfl rfl ?_
                        clear hK a; intro a hK
                        refine st_op (d := 15) (v' := .bool (decide (x43.t.ts < v88.t.ts))) (vs := []) (obs := []) hK rfl (fun _ => by kernel_rfl) trivial rfl rfl rfl ?_
                        clear hK a; intro a hK
                        refine wpList_nil ?_
                        replace hK := hK.weak (K' := [(3, .int .i64 at_), (8, .pointer (some ⟨g3, 0, none⟩)), (9, .pointer (some ⟨g5, 0, none⟩)), (14, .bool false), (18, .pointer (some ⟨g26, 0, none⟩)), (20, .pointer (some ⟨g36, 0, none⟩)), (90, .slice A32 m34.length c33), (91, .int .i64 ((m34.length : Nat) : Int)), (92, .int .i64 ((k : Nat) : Int)), (15, .bool (decide (x43.t.ts < v88.t.ts))), (93, .bool true), (94, .pointer (some ⟨b45, o46 + k * 4, none⟩)), (95, .agg #[.int .i64 x43.t.id, .int .i64 x43.t.ts, .slice x43.ra x43.t.reads.length x43.rc, .slice x43.wa x43.t.writes.length x43.wc]), (24, .pointer (some ⟨g49, 0, none⟩)), (96, .agg #[.int .i64 two.last, .slice two.sa two.st.length two.sc, .slice two.oa two.op.length two.oc]), (97, .agg #[.int .i64 M31.last, .slice M31.sa M31.st.length M31.sc, .slice M31.oa M31.op.length M31.oc]), (98, .slice (some ⟨g52, 0, none⟩) 2 2), (99, .int .i64 2), (100, .int .i64 1), (101, .bool true), (102, .pointer (some ⟨g52, 3, none⟩)), (103, .agg #[.int .i64 M31.last, .slice M31.sa M31.st.length M31.sc, .slice M31.oa M31.op.length M31.oc]), (26, .pointer (some ⟨g84, 0, none⟩)), (105, .agg #[.int .i64 M31.last, .slice M31.sa M31.st.length M31.sc, .slice M31.oa M31.op.length M31.oc]), (106, .agg #[.int .i64 t.t.id, .int .i64 t.t.ts, .slice t.ra t.t.reads.length t.rc, .slice t.wa t.t.writes.length t.wc]), (107, .agg #[.int .i64 (aroundS (IntKind.i64.wrap (at_ + later)) l1 r1).1.1, .int .i64 (aroundS (IntKind.i64.wrap (at_ + later)) l1 r1).1.2]), (108, .tuple #[.agg #[.int .i64 M87.last, .slice M87.sa M87.st.length M87.sc, .slice M87.oa M87.op.length M87.oc], .agg #[.int .i64 v88.t.id, .int .i64 v88.t.ts, .slice v88.ra v88.t.reads.length v88.rc, .slice v88.wa v88.t.writes.length v88.wc], .int .i64 (stampS M31.d t.t (aroundS (IntKind.i64.wrap (at_ + later)) l1 r1).1.1 (aroundS (IntKind.i64.wrap (at_ + later)) l1 r1).1.2).2.2]), (104, .tuple #[.agg #[.int .i64 M87.last, .slice M87.sa M87.st.length M87.sc, .slice M87.oa M87.op.length M87.oc], .agg #[.int .i64 v88.t.id, .int .i64 v88.t.ts, .slice v88.ra v88.t.reads.length v88.rc, .slice v88.wa v88.t.writes.length v88.wc], .int .i64 (stampS M31.d t.t (aroundS (IntKind.i64.wrap (at_ + later)) l1 r1).1.1 (aroundS (IntKind.i64.wrap (at_ + later)) l1 r1).1.2).2.2]), (109, .agg #[.int .i64 M87.last, .slice M87.sa M87.st.length M87.sc, .slice M87.oa M87.op.length M87.oc]), (110, .agg #[.int .i64 v88.t.id, .int .i64 v88.t.ts, .slice v88.ra v88.t.reads.length v88.rc, .slice v88.wa v88.t.writes.length v88.wc]), (111, .int .i64 (stampS M31.d t.t (aroundS (IntKind.i64.wrap (at_ + later)) l1 r1).1.1 (aroundS (IntKind.i64.wrap (at_ + later)) l1 r1).1.2).2.2), (27, .pointer (some ⟨g90, 0, none⟩)), (28, .pointer (some ⟨g92, 0, none⟩)), (29, .int .i64 (stampS M31.d t.t (aroundS (IntKind.i64.wrap (at_ + later)) l1 r1).1.1 (aroundS (IntKind.i64.wrap (at_ + later)) l1 r1).1.2).2.2), (112, .bool true), (113, .bool true), (114, .int .i64 (stampS M31.d t.t (aroundS (IntKind.i64.wrap (at_ + later)) l1 r1).1.1 (aroundS (IntKind.i64.wrap (at_ + later)) l1 r1).1.2).2.2), (115, .bool (!((stampS M31.d t.t (aroundS (IntKind.i64.wrap (at_ + later)) l1 r1).1.1 (aroundS (IntKind.i64.wrap (at_ + later)) l1 r1).1.2).2.2 == 0))), (116, .bool false), (122, .bool (decide (x43.t.ts < v88.t.ts))), (123, .bool (decide (x43.t.ts < v88.t.ts))), (124, .int .i64 1), (117, .pointer (some ⟨g49, 1, none⟩)), (118, .int .i64 x43.t.ts), (119, .pointer (some ⟨g92, 1, none⟩)), (120, .int .i64 v88.t.ts), (121, .bool (decide (x43.t.ts < v88.t.ts)))]) ⟨rfl, rfl, rfl, rfl, rfl, rfl, rfl, rfl, rfl, rfl, rfl, rfl, rfl, rfl, rfl, rfl, rfl, rfl, rfl, rfl, rfl, rfl, rfl, rfl, rfl, rfl, rfl, rfl, rfl, rfl, rfl, rfl, rfl, rfl, rfl, rfl, rfl, rfl, rfl, rfl, rfl, rfl, rfl, rfl, rfl, rfl, rfl, trivial⟩
                        refine xb_norm ?_
                        refine xt_norm ?_
                        refine wp_region_lit ?_
                        refine st_op (d := 124) (v' := .int .i64 2) (vs := []) (obs := []) hK rfl (fun _ => by kernel_rfl) trivial rfl rfl rfl ?_
                        clear hK a; intro a hK
                        refine st_op (d := 100) (v' := .int .i64 2) (vs := []) (obs := []) hK rfl (fun _ => by kernel_rfl) trivial rfl rfl rfl ?_
                        clear hK a; intro a hK
                        refine wpList_nil ?_
                        replace hK := hK.weak (K' := [(3, .int .i64 at_), (8, .pointer (some ⟨g3, 0, none⟩)), (9, .pointer (some ⟨g5, 0, none⟩)), (14, .bool false), (18, .pointer (some ⟨g26, 0, none⟩)), (20, .pointer (some ⟨g36, 0, none⟩)), (90, .slice A32 m34.length c33), (91, .int .i64 ((m34.length : Nat) : Int)), (92, .int .i64 ((k : Nat) : Int)), (15, .bool (decide (x43.t.ts < v88.t.ts))), (93, .bool true), (94, .pointer (some ⟨b45, o46 + k * 4, none⟩)), (95, .agg #[.int .i64 x43.t.id, .int .i64 x43.t.ts, .slice x43.ra x43.t.reads.length x43.rc, .slice x43.wa x43.t.writes.length x43.wc]), (24, .pointer (some ⟨g49, 0, none⟩)), (96, .agg #[.int .i64 two.last, .slice two.sa two.st.length two.sc, .slice two.oa two.op.length two.oc]), (97, .agg #[.int .i64 M31.last, .slice M31.sa M31.st.length M31.sc, .slice M31.oa M31.op.length M31.oc]), (98, .slice (some ⟨g52, 0, none⟩) 2 2), (99, .int .i64 2), (100, .int .i64 2), (101, .bool true), (102, .pointer (some ⟨g52, 3, none⟩)), (103, .agg #[.int .i64 M31.last, .slice M31.sa M31.st.length M31.sc, .slice M31.oa M31.op.length M31.oc]), (26, .pointer (some ⟨g84, 0, none⟩)), (105, .agg #[.int .i64 M31.last, .slice M31.sa M31.st.length M31.sc, .slice M31.oa M31.op.length M31.oc]), (106, .agg #[.int .i64 t.t.id, .int .i64 t.t.ts, .slice t.ra t.t.reads.length t.rc, .slice t.wa t.t.writes.length t.wc]), (107, .agg #[.int .i64 (aroundS (IntKind.i64.wrap (at_ + later)) l1 r1).1.1, .int .i64 (aroundS (IntKind.i64.wrap (at_ + later)) l1 r1).1.2]), (108, .tuple #[.agg #[.int .i64 M87.last, .slice M87.sa M87.st.length M87.sc, .slice M87.oa M87.op.length M87.oc], .agg #[.int .i64 v88.t.id, .int .i64 v88.t.ts, .slice v88.ra v88.t.reads.length v88.rc, .slice v88.wa v88.t.writes.length v88.wc], .int .i64 (stampS M31.d t.t (aroundS (IntKind.i64.wrap (at_ + later)) l1 r1).1.1 (aroundS (IntKind.i64.wrap (at_ + later)) l1 r1).1.2).2.2]), (104, .tuple #[.agg #[.int .i64 M87.last, .slice M87.sa M87.st.length M87.sc, .slice M87.oa M87.op.length M87.oc], .agg #[.int .i64 v88.t.id, .int .i64 v88.t.ts, .slice v88.ra v88.t.reads.length v88.rc, .slice v88.wa v88.t.writes.length v88.wc], .int .i64 (stampS M31.d t.t (aroundS (IntKind.i64.wrap (at_ + later)) l1 r1).1.1 (aroundS (IntKind.i64.wrap (at_ + later)) l1 r1).1.2).2.2]), (109, .agg #[.int .i64 M87.last, .slice M87.sa M87.st.length M87.sc, .slice M87.oa M87.op.length M87.oc]), (110, .agg #[.int .i64 v88.t.id, .int .i64 v88.t.ts, .slice v88.ra v88.t.reads.length v88.rc, .slice v88.wa v88.t.writes.length v88.wc]), (111, .int .i64 (stampS M31.d t.t (aroundS (IntKind.i64.wrap (at_ + later)) l1 r1).1.1 (aroundS (IntKind.i64.wrap (at_ + later)) l1 r1).1.2).2.2), (27, .pointer (some ⟨g90, 0, none⟩)), (28, .pointer (some ⟨g92, 0, none⟩)), (29, .int .i64 (stampS M31.d t.t (aroundS (IntKind.i64.wrap (at_ + later)) l1 r1).1.1 (aroundS (IntKind.i64.wrap (at_ + later)) l1 r1).1.2).2.2), (112, .bool true), (113, .bool true), (114, .int .i64 (stampS M31.d t.t (aroundS (IntKind.i64.wrap (at_ + later)) l1 r1).1.1 (aroundS (IntKind.i64.wrap (at_ + later)) l1 r1).1.2).2.2), (115, .bool (!((stampS M31.d t.t (aroundS (IntKind.i64.wrap (at_ + later)) l1 r1).1.1 (aroundS (IntKind.i64.wrap (at_ + later)) l1 r1).1.2).2.2 == 0))), (116, .bool false), (122, .bool (decide (x43.t.ts < v88.t.ts))), (123, .bool (decide (x43.t.ts < v88.t.ts))), (124, .int .i64 2), (117, .pointer (some ⟨g49, 1, none⟩)), (118, .int .i64 x43.t.ts), (119, .pointer (some ⟨g92, 1, none⟩)), (120, .int .i64 v88.t.ts), (121, .bool (decide (x43.t.ts < v88.t.ts)))]) ⟨rfl, rfl, rfl, rfl, rfl, rfl, rfl, rfl, rfl, rfl, rfl, rfl, rfl, rfl, rfl, rfl, rfl, rfl, rfl, rfl, rfl, rfl, rfl, rfl, rfl, rfl, rfl, rfl, rfl, rfl, rfl, rfl, rfl, rfl, rfl, rfl, rfl, rfl, rfl, rfl, rfl, rfl, rfl, rfl, rfl, rfl, rfl, trivial⟩
                        refine xt_norm ?_
                        refine vc_round ?_
                        refine wp_seq ?_
                        refine wp_region_lit ?_
                        refine st_op (d := 101) (v' := .bool false) (vs := []) (obs := []) hK rfl (fun _ => by kernel_rfl) trivial rfl rfl rfl ?_
                        clear hK a; intro a hK
                        refine wpList_nil ?_
                        replace hK := hK.weak (K' := [(3, .int .i64 at_), (8, .pointer (some ⟨g3, 0, none⟩)), (9, .pointer (some ⟨g5, 0, none⟩)), (14, .bool false), (18, .pointer (some ⟨g26, 0, none⟩)), (20, .pointer (some ⟨g36, 0, none⟩)), (90, .slice A32 m34.length c33), (91, .int .i64 ((m34.length : Nat) : Int)), (92, .int .i64 ((k : Nat) : Int)), (15, .bool (decide (x43.t.ts < v88.t.ts))), (93, .bool true), (94, .pointer (some ⟨b45, o46 + k * 4, none⟩)), (95, .agg #[.int .i64 x43.t.id, .int .i64 x43.t.ts, .slice x43.ra x43.t.reads.length x43.rc, .slice x43.wa x43.t.writes.length x43.wc]), (24, .pointer (some ⟨g49, 0, none⟩)), (96, .agg #[.int .i64 two.last, .slice two.sa two.st.length two.sc, .slice two.oa two.op.length two.oc]), (97, .agg #[.int .i64 M31.last, .slice M31.sa M31.st.length M31.sc, .slice M31.oa M31.op.length M31.oc]), (98, .slice (some ⟨g52, 0, none⟩) 2 2), (99, .int .i64 2), (100, .int .i64 2), (101, .bool false), (102, .pointer (some ⟨g52, 3, none⟩)), (103, .agg #[.int .i64 M31.last, .slice M31.sa M31.st.length M31.sc, .slice M31.oa M31.op.length M31.oc]), (26, .pointer (some ⟨g84, 0, none⟩)), (105, .agg #[.int .i64 M31.last, .slice M31.sa M31.st.length M31.sc, .slice M31.oa M31.op.length M31.oc]), (106, .agg #[.int .i64 t.t.id, .int .i64 t.t.ts, .slice t.ra t.t.reads.length t.rc, .slice t.wa t.t.writes.length t.wc]), (107, .agg #[.int .i64 (aroundS (IntKind.i64.wrap (at_ + later)) l1 r1).1.1, .int .i64 (aroundS (IntKind.i64.wrap (at_ + later)) l1 r1).1.2]), (108, .tuple #[.agg #[.int .i64 M87.last, .slice M87.sa M87.st.length M87.sc, .slice M87.oa M87.op.length M87.oc], .agg #[.int .i64 v88.t.id, .int .i64 v88.t.ts, .slice v88.ra v88.t.reads.length v88.rc, .slice v88.wa v88.t.writes.length v88.wc], .int .i64 (stampS M31.d t.t (aroundS (IntKind.i64.wrap (at_ + later)) l1 r1).1.1 (aroundS (IntKind.i64.wrap (at_ + later)) l1 r1).1.2).2.2]), (104, .tuple #[.agg #[.int .i64 M87.last, .slice M87.sa M87.st.length M87.sc, .slice M87.oa M87.op.length M87.oc], .agg #[.int .i64 v88.t.id, .int .i64 v88.t.ts, .slice v88.ra v88.t.reads.length v88.rc, .slice v88.wa v88.t.writes.length v88.wc], .int .i64 (stampS M31.d t.t (aroundS (IntKind.i64.wrap (at_ + later)) l1 r1).1.1 (aroundS (IntKind.i64.wrap (at_ + later)) l1 r1).1.2).2.2]), (109, .agg #[.int .i64 M87.last, .slice M87.sa M87.st.length M87.sc, .slice M87.oa M87.op.length M87.oc]), (110, .agg #[.int .i64 v88.t.id, .int .i64 v88.t.ts, .slice v88.ra v88.t.reads.length v88.rc, .slice v88.wa v88.t.writes.length v88.wc]), (111, .int .i64 (stampS M31.d t.t (aroundS (IntKind.i64.wrap (at_ + later)) l1 r1).1.1 (aroundS (IntKind.i64.wrap (at_ + later)) l1 r1).1.2).2.2), (27, .pointer (some ⟨g90, 0, none⟩)), (28, .pointer (some ⟨g92, 0, none⟩)), (29, .int .i64 (stampS M31.d t.t (aroundS (IntKind.i64.wrap (at_ + later)) l1 r1).1.1 (aroundS (IntKind.i64.wrap (at_ + later)) l1 r1).1.2).2.2), (112, .bool true), (113, .bool true), (114, .int .i64 (stampS M31.d t.t (aroundS (IntKind.i64.wrap (at_ + later)) l1 r1).1.1 (aroundS (IntKind.i64.wrap (at_ + later)) l1 r1).1.2).2.2), (115, .bool (!((stampS M31.d t.t (aroundS (IntKind.i64.wrap (at_ + later)) l1 r1).1.1 (aroundS (IntKind.i64.wrap (at_ + later)) l1 r1).1.2).2.2 == 0))), (116, .bool false), (122, .bool (decide (x43.t.ts < v88.t.ts))), (123, .bool (decide (x43.t.ts < v88.t.ts))), (124, .int .i64 2), (117, .pointer (some ⟨g49, 1, none⟩)), (118, .int .i64 x43.t.ts), (119, .pointer (some ⟨g92, 1, none⟩)), (120, .int .i64 v88.t.ts), (121, .bool (decide (x43.t.ts < v88.t.ts)))]) ⟨rfl, rfl, rfl, rfl, rfl, rfl, rfl, rfl, rfl, rfl, rfl, rfl, rfl, rfl, rfl, rfl, rfl, rfl, rfl, rfl, rfl, rfl, rfl, rfl, rfl, rfl, rfl, rfl, rfl, rfl, rfl, rfl, rfl, rfl, rfl, rfl, rfl, rfl, rfl, rfl, rfl, rfl, rfl, rfl, rfl, rfl, rfl, trivial⟩
                        refine xt_norm ?_
                        refine wp_seq ?_
                        refine vc_cond (t := false) hK (fun _ => rfl) ?_
                        rw [if_neg (by simp)]
                        refine wp_exit ?_
                        refine xt_exit ?_
                        refine xt_exit ?_
                        refine xb_hit ?_
                        refine xt_norm ?_
                        refine wp_region_lit ?_
                        refine st_op (d := 125) (v' := .bool (decide (x43.t.ts < v88.t.ts))) (vs := []) (obs := []) hK rfl (fun _ => by kernel_rfl) trivial rfl rfl rfl ?_
                        clear hK a; intro a hK
                        refine st_op (d := 126) (v' := .bool (decide (x43.t.ts < v88.t.ts))) (vs := []) (obs := []) hK rfl (fun _ => by kernel_rfl) trivial rfl rfl rfl ?_
                        clear hK a; intro a hK
                        have hd97 : (decide (x43.t.ts < v88.t.ts)) = true := decide_eq_true (by have h1 := shown_lt (hm31 ▸ txs_at hx44); have h2 := hri.2.1; rw [← hv87] at h2; rw [hsum] at h2 ha2; omega)
                        replace hK := hK.sub (d := 126) (v' := .bool true) rfl (congrArg Value.bool hd97)
                        refine st_op (d := 127) (v' := .pointer (some ⟨g49, 1, none⟩)) (vs := []) (obs := []) hK rfl (fun _ => by kernel_rfl) trivial rfl rfl rfl ?_
                        clear hK a; intro a hK
                        refine st_op (d := 128) (v' := .int .i64 x43.t.ts) (vs := [.int .i64 x43.t.ts]) (obs := [(⟨g49, 1, none⟩, .int .i64 x43.t.ts)]) hK rfl (fun _ => by kernel_rfl) ⟨((hE.blk 11 rfl).cell 1).trans rfl, trivial⟩ rfl rfl rfl ?_
                        clear hK a; intro a hK
                        refine st_op (d := 129) (v' := .int .i64 at_) (vs := []) (obs := []) hK rfl (fun _ => by kernel_rfl) trivial rfl rfl rfl ?_
                        clear hK a; intro a hK
                        refine st_op (d := 130) (v' := .bool (decide (x43.t.ts < at_))) (vs := []) (obs := []) hK rfl (fun _ => by kernel_rfl) trivial rfl rfl rfl ?_
                        clear hK a; intro a hK
                        refine st_op (d := 131) (v' := .bool (decide (x43.t.ts < at_))) (vs := []) (obs := []) hK rfl (fun _ => by kernel_rfl) trivial rfl rfl rfl ?_
                        clear hK a; intro a hK
                        refine st_op (d := 15) (v' := .bool (decide (x43.t.ts < at_))) (vs := []) (obs := []) hK rfl (fun _ => by kernel_rfl) trivial rfl rfl rfl ?_
                        clear hK a; intro a hK
                        refine wpList_nil ?_
                        replace hK := hK.weak (K' := [(3, .int .i64 at_), (8, .pointer (some ⟨g3, 0, none⟩)), (9, .pointer (some ⟨g5, 0, none⟩)), (14, .bool false), (18, .pointer (some ⟨g26, 0, none⟩)), (20, .pointer (some ⟨g36, 0, none⟩)), (90, .slice A32 m34.length c33), (91, .int .i64 ((m34.length : Nat) : Int)), (92, .int .i64 ((k : Nat) : Int)), (15, .bool (decide (x43.t.ts < at_))), (93, .bool true), (94, .pointer (some ⟨b45, o46 + k * 4, none⟩)), (95, .agg #[.int .i64 x43.t.id, .int .i64 x43.t.ts, .slice x43.ra x43.t.reads.length x43.rc, .slice x43.wa x43.t.writes.length x43.wc]), (24, .pointer (some ⟨g49, 0, none⟩)), (96, .agg #[.int .i64 two.last, .slice two.sa two.st.length two.sc, .slice two.oa two.op.length two.oc]), (97, .agg #[.int .i64 M31.last, .slice M31.sa M31.st.length M31.sc, .slice M31.oa M31.op.length M31.oc]), (98, .slice (some ⟨g52, 0, none⟩) 2 2), (99, .int .i64 2), (100, .int .i64 2), (101, .bool false), (102, .pointer (some ⟨g52, 3, none⟩)), (103, .agg #[.int .i64 M31.last, .slice M31.sa M31.st.length M31.sc, .slice M31.oa M31.op.length M31.oc]), (26, .pointer (some ⟨g84, 0, none⟩)), (105, .agg #[.int .i64 M31.last, .slice M31.sa M31.st.length M31.sc, .slice M31.oa M31.op.length M31.oc]), (106, .agg #[.int .i64 t.t.id, .int .i64 t.t.ts, .slice t.ra t.t.reads.length t.rc, .slice t.wa t.t.writes.length t.wc]), (107, .agg #[.int .i64 (aroundS (IntKind.i64.wrap (at_ + later)) l1 r1).1.1, .int .i64 (aroundS (IntKind.i64.wrap (at_ + later)) l1 r1).1.2]), (108, .tuple #[.agg #[.int .i64 M87.last, .slice M87.sa M87.st.length M87.sc, .slice M87.oa M87.op.length M87.oc], .agg #[.int .i64 v88.t.id, .int .i64 v88.t.ts, .slice v88.ra v88.t.reads.length v88.rc, .slice v88.wa v88.t.writes.length v88.wc], .int .i64 (stampS M31.d t.t (aroundS (IntKind.i64.wrap (at_ + later)) l1 r1).1.1 (aroundS (IntKind.i64.wrap (at_ + later)) l1 r1).1.2).2.2]), (104, .tuple #[.agg #[.int .i64 M87.last, .slice M87.sa M87.st.length M87.sc, .slice M87.oa M87.op.length M87.oc], .agg #[.int .i64 v88.t.id, .int .i64 v88.t.ts, .slice v88.ra v88.t.reads.length v88.rc, .slice v88.wa v88.t.writes.length v88.wc], .int .i64 (stampS M31.d t.t (aroundS (IntKind.i64.wrap (at_ + later)) l1 r1).1.1 (aroundS (IntKind.i64.wrap (at_ + later)) l1 r1).1.2).2.2]), (109, .agg #[.int .i64 M87.last, .slice M87.sa M87.st.length M87.sc, .slice M87.oa M87.op.length M87.oc]), (110, .agg #[.int .i64 v88.t.id, .int .i64 v88.t.ts, .slice v88.ra v88.t.reads.length v88.rc, .slice v88.wa v88.t.writes.length v88.wc]), (111, .int .i64 (stampS M31.d t.t (aroundS (IntKind.i64.wrap (at_ + later)) l1 r1).1.1 (aroundS (IntKind.i64.wrap (at_ + later)) l1 r1).1.2).2.2), (27, .pointer (some ⟨g90, 0, none⟩)), (28, .pointer (some ⟨g92, 0, none⟩)), (29, .int .i64 (stampS M31.d t.t (aroundS (IntKind.i64.wrap (at_ + later)) l1 r1).1.1 (aroundS (IntKind.i64.wrap (at_ + later)) l1 r1).1.2).2.2), (112, .bool true), (113, .bool true), (114, .int .i64 (stampS M31.d t.t (aroundS (IntKind.i64.wrap (at_ + later)) l1 r1).1.1 (aroundS (IntKind.i64.wrap (at_ + later)) l1 r1).1.2).2.2), (115, .bool (!((stampS M31.d t.t (aroundS (IntKind.i64.wrap (at_ + later)) l1 r1).1.1 (aroundS (IntKind.i64.wrap (at_ + later)) l1 r1).1.2).2.2 == 0))), (116, .bool false), (122, .bool (decide (x43.t.ts < v88.t.ts))), (123, .bool (decide (x43.t.ts < v88.t.ts))), (124, .int .i64 2), (117, .pointer (some ⟨g49, 1, none⟩)), (118, .int .i64 x43.t.ts), (119, .pointer (some ⟨g92, 1, none⟩)), (120, .int .i64 v88.t.ts), (121, .bool (decide (x43.t.ts < v88.t.ts))), (125, .bool (decide (x43.t.ts < v88.t.ts))), (126, .bool true), (127, .pointer (some ⟨g49, 1, none⟩)), (128, .int .i64 x43.t.ts), (129, .int .i64 at_), (130, .bool (decide (x43.t.ts < at_))), (131, .bool (decide (x43.t.ts < at_)))]) ⟨rfl, rfl, rfl, rfl, rfl, rfl, rfl, rfl, rfl, rfl, rfl, rfl, rfl, rfl, rfl, rfl, rfl, rfl, rfl, rfl, rfl, rfl, rfl, rfl, rfl, rfl, rfl, rfl, rfl, rfl, rfl, rfl, rfl, rfl, rfl, rfl, rfl, rfl, rfl, rfl, rfl, rfl, rfl, rfl, rfl, rfl, rfl, rfl, rfl, rfl, rfl, rfl, rfl, rfl, trivial⟩
                        refine xb_norm ?_
                        refine xt_norm ?_
                        refine wp_region_lit ?_
                        refine st_op (d := 132) (v' := .int .i64 (IntKind.i64.wrap (((k : Nat) : Int) + 1))) (v := .int .i64 (((k : Nat) : Int) + 1)) (vs := []) (obs := []) hK rfl (fun _ => by kernel_rfl) trivial (congrArg (Value.int .i64) (IntWalk.i64_in _ (by omega))) rfl rfl ?_
                        clear hK a; intro a hK
                        refine st_op (d := 92) (v' := .int .i64 (((k : Nat) : Int) + 1)) (vs := []) (obs := []) hK rfl (fun _ => by kernel_rfl) trivial rfl rfl rfl ?_
                        clear hK a; intro a hK
                        refine wpList_nil ?_
                        replace hK := hK.weak (K' := [(3, .int .i64 at_), (8, .pointer (some ⟨g3, 0, none⟩)), (9, .pointer (some ⟨g5, 0, none⟩)), (14, .bool false), (18, .pointer (some ⟨g26, 0, none⟩)), (20, .pointer (some ⟨g36, 0, none⟩)), (90, .slice A32 m34.length c33), (91, .int .i64 ((m34.length : Nat) : Int)), (92, .int .i64 (((k : Nat) : Int) + 1)), (15, .bool (decide (x43.t.ts < at_))), (93, .bool true), (94, .pointer (some ⟨b45, o46 + k * 4, none⟩)), (95, .agg #[.int .i64 x43.t.id, .int .i64 x43.t.ts, .slice x43.ra x43.t.reads.length x43.rc, .slice x43.wa x43.t.writes.length x43.wc]), (24, .pointer (some ⟨g49, 0, none⟩)), (96, .agg #[.int .i64 two.last, .slice two.sa two.st.length two.sc, .slice two.oa two.op.length two.oc]), (97, .agg #[.int .i64 M31.last, .slice M31.sa M31.st.length M31.sc, .slice M31.oa M31.op.length M31.oc]), (98, .slice (some ⟨g52, 0, none⟩) 2 2), (99, .int .i64 2), (100, .int .i64 2), (101, .bool false), (102, .pointer (some ⟨g52, 3, none⟩)), (103, .agg #[.int .i64 M31.last, .slice M31.sa M31.st.length M31.sc, .slice M31.oa M31.op.length M31.oc]), (26, .pointer (some ⟨g84, 0, none⟩)), (105, .agg #[.int .i64 M31.last, .slice M31.sa M31.st.length M31.sc, .slice M31.oa M31.op.length M31.oc]), (106, .agg #[.int .i64 t.t.id, .int .i64 t.t.ts, .slice t.ra t.t.reads.length t.rc, .slice t.wa t.t.writes.length t.wc]), (107, .agg #[.int .i64 (aroundS (IntKind.i64.wrap (at_ + later)) l1 r1).1.1, .int .i64 (aroundS (IntKind.i64.wrap (at_ + later)) l1 r1).1.2]), (108, .tuple #[.agg #[.int .i64 M87.last, .slice M87.sa M87.st.length M87.sc, .slice M87.oa M87.op.length M87.oc], .agg #[.int .i64 v88.t.id, .int .i64 v88.t.ts, .slice v88.ra v88.t.reads.length v88.rc, .slice v88.wa v88.t.writes.length v88.wc], .int .i64 (stampS M31.d t.t (aroundS (IntKind.i64.wrap (at_ + later)) l1 r1).1.1 (aroundS (IntKind.i64.wrap (at_ + later)) l1 r1).1.2).2.2]), (104, .tuple #[.agg #[.int .i64 M87.last, .slice M87.sa M87.st.length M87.sc, .slice M87.oa M87.op.length M87.oc], .agg #[.int .i64 v88.t.id, .int .i64 v88.t.ts, .slice v88.ra v88.t.reads.length v88.rc, .slice v88.wa v88.t.writes.length v88.wc], .int .i64 (stampS M31.d t.t (aroundS (IntKind.i64.wrap (at_ + later)) l1 r1).1.1 (aroundS (IntKind.i64.wrap (at_ + later)) l1 r1).1.2).2.2]), (109, .agg #[.int .i64 M87.last, .slice M87.sa M87.st.length M87.sc, .slice M87.oa M87.op.length M87.oc]), (110, .agg #[.int .i64 v88.t.id, .int .i64 v88.t.ts, .slice v88.ra v88.t.reads.length v88.rc, .slice v88.wa v88.t.writes.length v88.wc]), (111, .int .i64 (stampS M31.d t.t (aroundS (IntKind.i64.wrap (at_ + later)) l1 r1).1.1 (aroundS (IntKind.i64.wrap (at_ + later)) l1 r1).1.2).2.2), (27, .pointer (some ⟨g90, 0, none⟩)), (28, .pointer (some ⟨g92, 0, none⟩)), (29, .int .i64 (stampS M31.d t.t (aroundS (IntKind.i64.wrap (at_ + later)) l1 r1).1.1 (aroundS (IntKind.i64.wrap (at_ + later)) l1 r1).1.2).2.2), (112, .bool true), (113, .bool true), (114, .int .i64 (stampS M31.d t.t (aroundS (IntKind.i64.wrap (at_ + later)) l1 r1).1.1 (aroundS (IntKind.i64.wrap (at_ + later)) l1 r1).1.2).2.2), (115, .bool (!((stampS M31.d t.t (aroundS (IntKind.i64.wrap (at_ + later)) l1 r1).1.1 (aroundS (IntKind.i64.wrap (at_ + later)) l1 r1).1.2).2.2 == 0))), (116, .bool false), (122, .bool (decide (x43.t.ts < v88.t.ts))), (123, .bool (decide (x43.t.ts < v88.t.ts))), (124, .int .i64 2), (117, .pointer (some ⟨g49, 1, none⟩)), (118, .int .i64 x43.t.ts), (119, .pointer (some ⟨g92, 1, none⟩)), (120, .int .i64 v88.t.ts), (121, .bool (decide (x43.t.ts < v88.t.ts))), (125, .bool (decide (x43.t.ts < v88.t.ts))), (126, .bool true), (127, .pointer (some ⟨g49, 1, none⟩)), (128, .int .i64 x43.t.ts), (129, .int .i64 at_), (130, .bool (decide (x43.t.ts < at_))), (131, .bool (decide (x43.t.ts < at_))), (132, .int .i64 (((k : Nat) : Int) + 1))]) ⟨rfl, rfl, rfl, rfl, rfl, rfl, rfl, rfl, rfl, rfl, rfl, rfl, rfl, rfl, rfl, rfl, rfl, rfl, rfl, rfl, rfl, rfl, rfl, rfl, rfl, rfl, rfl, rfl, rfl, rfl, rfl, rfl, rfl, rfl, rfl, rfl, rfl, rfl, rfl, rfl, rfl, rfl, rfl, rfl, rfl, rfl, rfl, rfl, rfl, rfl, rfl, rfl, rfl, rfl, rfl, trivial⟩
                        refine xt_norm ?_
                        replace hK := hK.sub (d := 92) (v' := .int .i64 (((k + 1) : Nat) : Int)) rfl (by first | rfl | (congr 1; omega))
                        have hd98 : (decide (x43.t.ts < at_)) = true := decide_eq_true (by have h1 := shown_lt (hm31 ▸ txs_at hx44); omega)
                        replace hK := hK.sub (d := 15) (v' := .bool true) rfl (congrArg Value.bool hd98)
                        refine ⟨k + 1, ⟨hK.weak ⟨rfl, rfl, rfl, rfl, rfl, rfl, rfl, rfl, rfl, rfl, trivial⟩, hE.drop (.cons _ (.cons _ (.cons _ (.cons _ (.cons _ (.cons _ (.cons _ (.cons _ (.cons _ (.cons _ (.cons _ (.cons _ (.cons _ (.cons _ (.cons_cons _ (.cons_cons _ (.cons_cons _ (.cons_cons _ (.cons_cons _ (.cons_cons _ (.cons_cons _ (.cons_cons _ (.cons_cons _ (.cons_cons _ (.cons_cons _ (.cons_cons _ (.cons_cons _ (.cons_cons _ .slnil)))))))))))))))))))))))))))), by omega, trivial⟩, by omega⟩
                      · have hc96p := ne_of_beq_false hc96
                        replace hK := hK.sub (d := 116) (v' := .bool true) rfl (congrArg (fun b => Value.bool !b) hc96)
                        refine st_skip (d := 117) hK rfl rfl rfl ?_
                        clear hK a; intro a hK
                        refine st_skip (d := 118) hK rfl rfl rfl ?_
                        clear hK a; intro a hK
                        refine st_skip (d := 119) hK rfl rfl rfl ?_
                        clear hK a; intro a hK
                        refine st_skip (d := 120) hK rfl rfl rfl ?_
                        clear hK a; intro a hK
                        refine st_skip (d := 121) hK rfl rfl rfl ?_
                        clear hK a; intro a hK
                        refine st_op (d := 122) (v' := .bool true) (vs := []) (obs := []) hK rfl (fun _ => by kernel_rfl) trivial rfl rfl rfl ?_
                        clear hK a; intro a hK
                        refine st_op (d := 123) (v' := .bool true) (vs := []) (obs := []) hK rfl (fun _ => by kernel_rfl) trivial rfl rfl rfl ?_
                        clear hK a; intro a hK
                        refine st_op (d := 15) (v' := .bool true) (vs := []) (obs := []) hK rfl (fun _ => by kernel_rfl) trivial rfl rfl rfl ?_
                        clear hK a; intro a hK
                        refine wpList_nil ?_
                        replace hK := hK.weak (K' := [(3, .int .i64 at_), (8, .pointer (some ⟨g3, 0, none⟩)), (9, .pointer (some ⟨g5, 0, none⟩)), (14, .bool false), (18, .pointer (some ⟨g26, 0, none⟩)), (20, .pointer (some ⟨g36, 0, none⟩)), (90, .slice A32 m34.length c33), (91, .int .i64 ((m34.length : Nat) : Int)), (92, .int .i64 ((k : Nat) : Int)), (15, .bool true), (93, .bool true), (94, .pointer (some ⟨b45, o46 + k * 4, none⟩)), (95, .agg #[.int .i64 x43.t.id, .int .i64 x43.t.ts, .slice x43.ra x43.t.reads.length x43.rc, .slice x43.wa x43.t.writes.length x43.wc]), (24, .pointer (some ⟨g49, 0, none⟩)), (96, .agg #[.int .i64 two.last, .slice two.sa two.st.length two.sc, .slice two.oa two.op.length two.oc]), (97, .agg #[.int .i64 M31.last, .slice M31.sa M31.st.length M31.sc, .slice M31.oa M31.op.length M31.oc]), (98, .slice (some ⟨g52, 0, none⟩) 2 2), (99, .int .i64 2), (100, .int .i64 1), (101, .bool true), (102, .pointer (some ⟨g52, 3, none⟩)), (103, .agg #[.int .i64 M31.last, .slice M31.sa M31.st.length M31.sc, .slice M31.oa M31.op.length M31.oc]), (26, .pointer (some ⟨g84, 0, none⟩)), (105, .agg #[.int .i64 M31.last, .slice M31.sa M31.st.length M31.sc, .slice M31.oa M31.op.length M31.oc]), (106, .agg #[.int .i64 t.t.id, .int .i64 t.t.ts, .slice t.ra t.t.reads.length t.rc, .slice t.wa t.t.writes.length t.wc]), (107, .agg #[.int .i64 (aroundS (IntKind.i64.wrap (at_ + later)) l1 r1).1.1, .int .i64 (aroundS (IntKind.i64.wrap (at_ + later)) l1 r1).1.2]), (108, .tuple #[.agg #[.int .i64 M87.last, .slice M87.sa M87.st.length M87.sc, .slice M87.oa M87.op.length M87.oc], .agg #[.int .i64 v88.t.id, .int .i64 v88.t.ts, .slice v88.ra v88.t.reads.length v88.rc, .slice v88.wa v88.t.writes.length v88.wc], .int .i64 (stampS M31.d t.t (aroundS (IntKind.i64.wrap (at_ + later)) l1 r1).1.1 (aroundS (IntKind.i64.wrap (at_ + later)) l1 r1).1.2).2.2]), (104, .tuple #[.agg #[.int .i64 M87.last, .slice M87.sa M87.st.length M87.sc, .slice M87.oa M87.op.length M87.oc], .agg #[.int .i64 v88.t.id, .int .i64 v88.t.ts, .slice v88.ra v88.t.reads.length v88.rc, .slice v88.wa v88.t.writes.length v88.wc], .int .i64 (stampS M31.d t.t (aroundS (IntKind.i64.wrap (at_ + later)) l1 r1).1.1 (aroundS (IntKind.i64.wrap (at_ + later)) l1 r1).1.2).2.2]), (109, .agg #[.int .i64 M87.last, .slice M87.sa M87.st.length M87.sc, .slice M87.oa M87.op.length M87.oc]), (110, .agg #[.int .i64 v88.t.id, .int .i64 v88.t.ts, .slice v88.ra v88.t.reads.length v88.rc, .slice v88.wa v88.t.writes.length v88.wc]), (111, .int .i64 (stampS M31.d t.t (aroundS (IntKind.i64.wrap (at_ + later)) l1 r1).1.1 (aroundS (IntKind.i64.wrap (at_ + later)) l1 r1).1.2).2.2), (27, .pointer (some ⟨g90, 0, none⟩)), (28, .pointer (some ⟨g92, 0, none⟩)), (29, .int .i64 (stampS M31.d t.t (aroundS (IntKind.i64.wrap (at_ + later)) l1 r1).1.1 (aroundS (IntKind.i64.wrap (at_ + later)) l1 r1).1.2).2.2), (112, .bool true), (113, .bool true), (114, .int .i64 (stampS M31.d t.t (aroundS (IntKind.i64.wrap (at_ + later)) l1 r1).1.1 (aroundS (IntKind.i64.wrap (at_ + later)) l1 r1).1.2).2.2), (115, .bool (!((stampS M31.d t.t (aroundS (IntKind.i64.wrap (at_ + later)) l1 r1).1.1 (aroundS (IntKind.i64.wrap (at_ + later)) l1 r1).1.2).2.2 == 0))), (116, .bool true), (122, .bool true), (123, .bool true), (124, .int .i64 1)]) ⟨rfl, rfl, rfl, rfl, rfl, rfl, rfl, rfl, rfl, rfl, rfl, rfl, rfl, rfl, rfl, rfl, rfl, rfl, rfl, rfl, rfl, rfl, rfl, rfl, rfl, rfl, rfl, rfl, rfl, rfl, rfl, rfl, rfl, rfl, rfl, rfl, rfl, rfl, rfl, rfl, rfl, rfl, trivial⟩
                        refine xb_norm ?_
                        refine xt_norm ?_
                        refine wp_region_lit ?_
                        refine st_op (d := 124) (v' := .int .i64 2) (vs := []) (obs := []) hK rfl (fun _ => by kernel_rfl) trivial rfl rfl rfl ?_
                        clear hK a; intro a hK
                        refine st_op (d := 100) (v' := .int .i64 2) (vs := []) (obs := []) hK rfl (fun _ => by kernel_rfl) trivial rfl rfl rfl ?_
                        clear hK a; intro a hK
                        refine wpList_nil ?_
                        replace hK := hK.weak (K' := [(3, .int .i64 at_), (8, .pointer (some ⟨g3, 0, none⟩)), (9, .pointer (some ⟨g5, 0, none⟩)), (14, .bool false), (18, .pointer (some ⟨g26, 0, none⟩)), (20, .pointer (some ⟨g36, 0, none⟩)), (90, .slice A32 m34.length c33), (91, .int .i64 ((m34.length : Nat) : Int)), (92, .int .i64 ((k : Nat) : Int)), (15, .bool true), (93, .bool true), (94, .pointer (some ⟨b45, o46 + k * 4, none⟩)), (95, .agg #[.int .i64 x43.t.id, .int .i64 x43.t.ts, .slice x43.ra x43.t.reads.length x43.rc, .slice x43.wa x43.t.writes.length x43.wc]), (24, .pointer (some ⟨g49, 0, none⟩)), (96, .agg #[.int .i64 two.last, .slice two.sa two.st.length two.sc, .slice two.oa two.op.length two.oc]), (97, .agg #[.int .i64 M31.last, .slice M31.sa M31.st.length M31.sc, .slice M31.oa M31.op.length M31.oc]), (98, .slice (some ⟨g52, 0, none⟩) 2 2), (99, .int .i64 2), (100, .int .i64 2), (101, .bool true), (102, .pointer (some ⟨g52, 3, none⟩)), (103, .agg #[.int .i64 M31.last, .slice M31.sa M31.st.length M31.sc, .slice M31.oa M31.op.length M31.oc]), (26, .pointer (some ⟨g84, 0, none⟩)), (105, .agg #[.int .i64 M31.last, .slice M31.sa M31.st.length M31.sc, .slice M31.oa M31.op.length M31.oc]), (106, .agg #[.int .i64 t.t.id, .int .i64 t.t.ts, .slice t.ra t.t.reads.length t.rc, .slice t.wa t.t.writes.length t.wc]), (107, .agg #[.int .i64 (aroundS (IntKind.i64.wrap (at_ + later)) l1 r1).1.1, .int .i64 (aroundS (IntKind.i64.wrap (at_ + later)) l1 r1).1.2]), (108, .tuple #[.agg #[.int .i64 M87.last, .slice M87.sa M87.st.length M87.sc, .slice M87.oa M87.op.length M87.oc], .agg #[.int .i64 v88.t.id, .int .i64 v88.t.ts, .slice v88.ra v88.t.reads.length v88.rc, .slice v88.wa v88.t.writes.length v88.wc], .int .i64 (stampS M31.d t.t (aroundS (IntKind.i64.wrap (at_ + later)) l1 r1).1.1 (aroundS (IntKind.i64.wrap (at_ + later)) l1 r1).1.2).2.2]), (104, .tuple #[.agg #[.int .i64 M87.last, .slice M87.sa M87.st.length M87.sc, .slice M87.oa M87.op.length M87.oc], .agg #[.int .i64 v88.t.id, .int .i64 v88.t.ts, .slice v88.ra v88.t.reads.length v88.rc, .slice v88.wa v88.t.writes.length v88.wc], .int .i64 (stampS M31.d t.t (aroundS (IntKind.i64.wrap (at_ + later)) l1 r1).1.1 (aroundS (IntKind.i64.wrap (at_ + later)) l1 r1).1.2).2.2]), (109, .agg #[.int .i64 M87.last, .slice M87.sa M87.st.length M87.sc, .slice M87.oa M87.op.length M87.oc]), (110, .agg #[.int .i64 v88.t.id, .int .i64 v88.t.ts, .slice v88.ra v88.t.reads.length v88.rc, .slice v88.wa v88.t.writes.length v88.wc]), (111, .int .i64 (stampS M31.d t.t (aroundS (IntKind.i64.wrap (at_ + later)) l1 r1).1.1 (aroundS (IntKind.i64.wrap (at_ + later)) l1 r1).1.2).2.2), (27, .pointer (some ⟨g90, 0, none⟩)), (28, .pointer (some ⟨g92, 0, none⟩)), (29, .int .i64 (stampS M31.d t.t (aroundS (IntKind.i64.wrap (at_ + later)) l1 r1).1.1 (aroundS (IntKind.i64.wrap (at_ + later)) l1 r1).1.2).2.2), (112, .bool true), (113, .bool true), (114, .int .i64 (stampS M31.d t.t (aroundS (IntKind.i64.wrap (at_ + later)) l1 r1).1.1 (aroundS (IntKind.i64.wrap (at_ + later)) l1 r1).1.2).2.2), (115, .bool (!((stampS M31.d t.t (aroundS (IntKind.i64.wrap (at_ + later)) l1 r1).1.1 (aroundS (IntKind.i64.wrap (at_ + later)) l1 r1).1.2).2.2 == 0))), (116, .bool true), (122, .bool true), (123, .bool true), (124, .int .i64 2)]) ⟨rfl, rfl, rfl, rfl, rfl, rfl, rfl, rfl, rfl, rfl, rfl, rfl, rfl, rfl, rfl, rfl, rfl, rfl, rfl, rfl, rfl, rfl, rfl, rfl, rfl, rfl, rfl, rfl, rfl, rfl, rfl, rfl, rfl, rfl, rfl, rfl, rfl, rfl, rfl, rfl, rfl, rfl, trivial⟩
                        refine xt_norm ?_
                        refine vc_round ?_
                        refine wp_seq ?_
                        refine wp_region_lit ?_
                        refine st_op (d := 101) (v' := .bool false) (vs := []) (obs := []) hK rfl (fun _ => by kernel_rfl) trivial rfl rfl rfl ?_
                        clear hK a; intro a hK
                        refine wpList_nil ?_
                        replace hK := hK.weak (K' := [(3, .int .i64 at_), (8, .pointer (some ⟨g3, 0, none⟩)), (9, .pointer (some ⟨g5, 0, none⟩)), (14, .bool false), (18, .pointer (some ⟨g26, 0, none⟩)), (20, .pointer (some ⟨g36, 0, none⟩)), (90, .slice A32 m34.length c33), (91, .int .i64 ((m34.length : Nat) : Int)), (92, .int .i64 ((k : Nat) : Int)), (15, .bool true), (93, .bool true), (94, .pointer (some ⟨b45, o46 + k * 4, none⟩)), (95, .agg #[.int .i64 x43.t.id, .int .i64 x43.t.ts, .slice x43.ra x43.t.reads.length x43.rc, .slice x43.wa x43.t.writes.length x43.wc]), (24, .pointer (some ⟨g49, 0, none⟩)), (96, .agg #[.int .i64 two.last, .slice two.sa two.st.length two.sc, .slice two.oa two.op.length two.oc]), (97, .agg #[.int .i64 M31.last, .slice M31.sa M31.st.length M31.sc, .slice M31.oa M31.op.length M31.oc]), (98, .slice (some ⟨g52, 0, none⟩) 2 2), (99, .int .i64 2), (100, .int .i64 2), (101, .bool false), (102, .pointer (some ⟨g52, 3, none⟩)), (103, .agg #[.int .i64 M31.last, .slice M31.sa M31.st.length M31.sc, .slice M31.oa M31.op.length M31.oc]), (26, .pointer (some ⟨g84, 0, none⟩)), (105, .agg #[.int .i64 M31.last, .slice M31.sa M31.st.length M31.sc, .slice M31.oa M31.op.length M31.oc]), (106, .agg #[.int .i64 t.t.id, .int .i64 t.t.ts, .slice t.ra t.t.reads.length t.rc, .slice t.wa t.t.writes.length t.wc]), (107, .agg #[.int .i64 (aroundS (IntKind.i64.wrap (at_ + later)) l1 r1).1.1, .int .i64 (aroundS (IntKind.i64.wrap (at_ + later)) l1 r1).1.2]), (108, .tuple #[.agg #[.int .i64 M87.last, .slice M87.sa M87.st.length M87.sc, .slice M87.oa M87.op.length M87.oc], .agg #[.int .i64 v88.t.id, .int .i64 v88.t.ts, .slice v88.ra v88.t.reads.length v88.rc, .slice v88.wa v88.t.writes.length v88.wc], .int .i64 (stampS M31.d t.t (aroundS (IntKind.i64.wrap (at_ + later)) l1 r1).1.1 (aroundS (IntKind.i64.wrap (at_ + later)) l1 r1).1.2).2.2]), (104, .tuple #[.agg #[.int .i64 M87.last, .slice M87.sa M87.st.length M87.sc, .slice M87.oa M87.op.length M87.oc], .agg #[.int .i64 v88.t.id, .int .i64 v88.t.ts, .slice v88.ra v88.t.reads.length v88.rc, .slice v88.wa v88.t.writes.length v88.wc], .int .i64 (stampS M31.d t.t (aroundS (IntKind.i64.wrap (at_ + later)) l1 r1).1.1 (aroundS (IntKind.i64.wrap (at_ + later)) l1 r1).1.2).2.2]), (109, .agg #[.int .i64 M87.last, .slice M87.sa M87.st.length M87.sc, .slice M87.oa M87.op.length M87.oc]), (110, .agg #[.int .i64 v88.t.id, .int .i64 v88.t.ts, .slice v88.ra v88.t.reads.length v88.rc, .slice v88.wa v88.t.writes.length v88.wc]), (111, .int .i64 (stampS M31.d t.t (aroundS (IntKind.i64.wrap (at_ + later)) l1 r1).1.1 (aroundS (IntKind.i64.wrap (at_ + later)) l1 r1).1.2).2.2), (27, .pointer (some ⟨g90, 0, none⟩)), (28, .pointer (some ⟨g92, 0, none⟩)), (29, .int .i64 (stampS M31.d t.t (aroundS (IntKind.i64.wrap (at_ + later)) l1 r1).1.1 (aroundS (IntKind.i64.wrap (at_ + later)) l1 r1).1.2).2.2), (112, .bool true), (113, .bool true), (114, .int .i64 (stampS M31.d t.t (aroundS (IntKind.i64.wrap (at_ + later)) l1 r1).1.1 (aroundS (IntKind.i64.wrap (at_ + later)) l1 r1).1.2).2.2), (115, .bool (!((stampS M31.d t.t (aroundS (IntKind.i64.wrap (at_ + later)) l1 r1).1.1 (aroundS (IntKind.i64.wrap (at_ + later)) l1 r1).1.2).2.2 == 0))), (116, .bool true), (122, .bool true), (123, .bool true), (124, .int .i64 2)]) ⟨rfl, rfl, rfl, rfl, rfl, rfl, rfl, rfl, rfl, rfl, rfl, rfl, rfl, rfl, rfl, rfl, rfl, rfl, rfl, rfl, rfl, rfl, rfl, rfl, rfl, rfl, rfl, rfl, rfl, rfl, rfl, rfl, rfl, rfl, rfl, rfl, rfl, rfl, rfl, rfl, rfl, rfl, trivial⟩
                        refine xt_norm ?_
                        refine wp_seq ?_
                        refine vc_cond (t := false) hK (fun _ => rfl) ?_
                        rw [if_neg (by simp)]
                        refine wp_exit ?_
                        refine xt_exit ?_
                        refine xt_exit ?_
                        refine xb_hit ?_
                        refine xt_norm ?_
                        refine wp_region_lit ?_
                        refine st_op (d := 125) (v' := .bool true) (vs := []) (obs := []) hK rfl (fun _ => by kernel_rfl) trivial rfl rfl rfl ?_
                        clear hK a; intro a hK
                        refine st_op (d := 126) (v' := .bool true) (vs := []) (obs := []) hK rfl (fun _ => by kernel_rfl) trivial rfl rfl rfl ?_
                        clear hK a; intro a hK
                        refine st_op (d := 127) (v' := .pointer (some ⟨g49, 1, none⟩)) (vs := []) (obs := []) hK rfl (fun _ => by kernel_rfl) trivial rfl rfl rfl ?_
                        clear hK a; intro a hK
                        refine st_op (d := 128) (v' := .int .i64 x43.t.ts) (vs := [.int .i64 x43.t.ts]) (obs := [(⟨g49, 1, none⟩, .int .i64 x43.t.ts)]) hK rfl (fun _ => by kernel_rfl) ⟨((hE.blk 11 rfl).cell 1).trans rfl, trivial⟩ rfl rfl rfl ?_
                        clear hK a; intro a hK
                        refine st_op (d := 129) (v' := .int .i64 at_) (vs := []) (obs := []) hK rfl (fun _ => by kernel_rfl) trivial rfl rfl rfl ?_
                        clear hK a; intro a hK
                        refine st_op (d := 130) (v' := .bool (decide (x43.t.ts < at_))) (vs := []) (obs := []) hK rfl (fun _ => by kernel_rfl) trivial rfl rfl rfl ?_
                        clear hK a; intro a hK
                        refine st_op (d := 131) (v' := .bool (decide (x43.t.ts < at_))) (vs := []) (obs := []) hK rfl (fun _ => by kernel_rfl) trivial rfl rfl rfl ?_
                        clear hK a; intro a hK
                        refine st_op (d := 15) (v' := .bool (decide (x43.t.ts < at_))) (vs := []) (obs := []) hK rfl (fun _ => by kernel_rfl) trivial rfl rfl rfl ?_
                        clear hK a; intro a hK
                        refine wpList_nil ?_
                        replace hK := hK.weak (K' := [(3, .int .i64 at_), (8, .pointer (some ⟨g3, 0, none⟩)), (9, .pointer (some ⟨g5, 0, none⟩)), (14, .bool false), (18, .pointer (some ⟨g26, 0, none⟩)), (20, .pointer (some ⟨g36, 0, none⟩)), (90, .slice A32 m34.length c33), (91, .int .i64 ((m34.length : Nat) : Int)), (92, .int .i64 ((k : Nat) : Int)), (15, .bool (decide (x43.t.ts < at_))), (93, .bool true), (94, .pointer (some ⟨b45, o46 + k * 4, none⟩)), (95, .agg #[.int .i64 x43.t.id, .int .i64 x43.t.ts, .slice x43.ra x43.t.reads.length x43.rc, .slice x43.wa x43.t.writes.length x43.wc]), (24, .pointer (some ⟨g49, 0, none⟩)), (96, .agg #[.int .i64 two.last, .slice two.sa two.st.length two.sc, .slice two.oa two.op.length two.oc]), (97, .agg #[.int .i64 M31.last, .slice M31.sa M31.st.length M31.sc, .slice M31.oa M31.op.length M31.oc]), (98, .slice (some ⟨g52, 0, none⟩) 2 2), (99, .int .i64 2), (100, .int .i64 2), (101, .bool false), (102, .pointer (some ⟨g52, 3, none⟩)), (103, .agg #[.int .i64 M31.last, .slice M31.sa M31.st.length M31.sc, .slice M31.oa M31.op.length M31.oc]), (26, .pointer (some ⟨g84, 0, none⟩)), (105, .agg #[.int .i64 M31.last, .slice M31.sa M31.st.length M31.sc, .slice M31.oa M31.op.length M31.oc]), (106, .agg #[.int .i64 t.t.id, .int .i64 t.t.ts, .slice t.ra t.t.reads.length t.rc, .slice t.wa t.t.writes.length t.wc]), (107, .agg #[.int .i64 (aroundS (IntKind.i64.wrap (at_ + later)) l1 r1).1.1, .int .i64 (aroundS (IntKind.i64.wrap (at_ + later)) l1 r1).1.2]), (108, .tuple #[.agg #[.int .i64 M87.last, .slice M87.sa M87.st.length M87.sc, .slice M87.oa M87.op.length M87.oc], .agg #[.int .i64 v88.t.id, .int .i64 v88.t.ts, .slice v88.ra v88.t.reads.length v88.rc, .slice v88.wa v88.t.writes.length v88.wc], .int .i64 (stampS M31.d t.t (aroundS (IntKind.i64.wrap (at_ + later)) l1 r1).1.1 (aroundS (IntKind.i64.wrap (at_ + later)) l1 r1).1.2).2.2]), (104, .tuple #[.agg #[.int .i64 M87.last, .slice M87.sa M87.st.length M87.sc, .slice M87.oa M87.op.length M87.oc], .agg #[.int .i64 v88.t.id, .int .i64 v88.t.ts, .slice v88.ra v88.t.reads.length v88.rc, .slice v88.wa v88.t.writes.length v88.wc], .int .i64 (stampS M31.d t.t (aroundS (IntKind.i64.wrap (at_ + later)) l1 r1).1.1 (aroundS (IntKind.i64.wrap (at_ + later)) l1 r1).1.2).2.2]), (109, .agg #[.int .i64 M87.last, .slice M87.sa M87.st.length M87.sc, .slice M87.oa M87.op.length M87.oc]), (110, .agg #[.int .i64 v88.t.id, .int .i64 v88.t.ts, .slice v88.ra v88.t.reads.length v88.rc, .slice v88.wa v88.t.writes.length v88.wc]), (111, .int .i64 (stampS M31.d t.t (aroundS (IntKind.i64.wrap (at_ + later)) l1 r1).1.1 (aroundS (IntKind.i64.wrap (at_ + later)) l1 r1).1.2).2.2), (27, .pointer (some ⟨g90, 0, none⟩)), (28, .pointer (some ⟨g92, 0, none⟩)), (29, .int .i64 (stampS M31.d t.t (aroundS (IntKind.i64.wrap (at_ + later)) l1 r1).1.1 (aroundS (IntKind.i64.wrap (at_ + later)) l1 r1).1.2).2.2), (112, .bool true), (113, .bool true), (114, .int .i64 (stampS M31.d t.t (aroundS (IntKind.i64.wrap (at_ + later)) l1 r1).1.1 (aroundS (IntKind.i64.wrap (at_ + later)) l1 r1).1.2).2.2), (115, .bool (!((stampS M31.d t.t (aroundS (IntKind.i64.wrap (at_ + later)) l1 r1).1.1 (aroundS (IntKind.i64.wrap (at_ + later)) l1 r1).1.2).2.2 == 0))), (116, .bool true), (122, .bool true), (123, .bool true), (124, .int .i64 2), (125, .bool true), (126, .bool true), (127, .pointer (some ⟨g49, 1, none⟩)), (128, .int .i64 x43.t.ts), (129, .int .i64 at_), (130, .bool (decide (x43.t.ts < at_))), (131, .bool (decide (x43.t.ts < at_)))]) ⟨rfl, rfl, rfl, rfl, rfl, rfl, rfl, rfl, rfl, rfl, rfl, rfl, rfl, rfl, rfl, rfl, rfl, rfl, rfl, rfl, rfl, rfl, rfl, rfl, rfl, rfl, rfl, rfl, rfl, rfl, rfl, rfl, rfl, rfl, rfl, rfl, rfl, rfl, rfl, rfl, rfl, rfl, rfl, rfl, rfl, rfl, rfl, rfl, rfl, trivial⟩
                        refine xb_norm ?_
                        refine xt_norm ?_
                        refine wp_region_lit ?_
                        refine st_op (d := 132) (v' := .int .i64 (IntKind.i64.wrap (((k : Nat) : Int) + 1))) (v := .int .i64 (((k : Nat) : Int) + 1)) (vs := []) (obs := []) hK rfl (fun _ => by kernel_rfl) trivial (congrArg (Value.int .i64) (IntWalk.i64_in _ (by omega))) rfl rfl ?_
                        clear hK a; intro a hK
                        refine st_op (d := 92) (v' := .int .i64 (((k : Nat) : Int) + 1)) (vs := []) (obs := []) hK rfl (fun _ => by kernel_rfl) trivial rfl rfl rfl ?_
                        clear hK a; intro a hK
                        refine wpList_nil ?_
                        replace hK := hK.weak (K' := [(3, .int .i64 at_), (8, .pointer (some ⟨g3, 0, none⟩)), (9, .pointer (some ⟨g5, 0, none⟩)), (14, .bool false), (18, .pointer (some ⟨g26, 0, none⟩)), (20, .pointer (some ⟨g36, 0, none⟩)), (90, .slice A32 m34.length c33), (91, .int .i64 ((m34.length : Nat) : Int)), (92, .int .i64 (((k : Nat) : Int) + 1)), (15, .bool (decide (x43.t.ts < at_))), (93, .bool true), (94, .pointer (some ⟨b45, o46 + k * 4, none⟩)), (95, .agg #[.int .i64 x43.t.id, .int .i64 x43.t.ts, .slice x43.ra x43.t.reads.length x43.rc, .slice x43.wa x43.t.writes.length x43.wc]), (24, .pointer (some ⟨g49, 0, none⟩)), (96, .agg #[.int .i64 two.last, .slice two.sa two.st.length two.sc, .slice two.oa two.op.length two.oc]), (97, .agg #[.int .i64 M31.last, .slice M31.sa M31.st.length M31.sc, .slice M31.oa M31.op.length M31.oc]), (98, .slice (some ⟨g52, 0, none⟩) 2 2), (99, .int .i64 2), (100, .int .i64 2), (101, .bool false), (102, .pointer (some ⟨g52, 3, none⟩)), (103, .agg #[.int .i64 M31.last, .slice M31.sa M31.st.length M31.sc, .slice M31.oa M31.op.length M31.oc]), (26, .pointer (some ⟨g84, 0, none⟩)), (105, .agg #[.int .i64 M31.last, .slice M31.sa M31.st.length M31.sc, .slice M31.oa M31.op.length M31.oc]), (106, .agg #[.int .i64 t.t.id, .int .i64 t.t.ts, .slice t.ra t.t.reads.length t.rc, .slice t.wa t.t.writes.length t.wc]), (107, .agg #[.int .i64 (aroundS (IntKind.i64.wrap (at_ + later)) l1 r1).1.1, .int .i64 (aroundS (IntKind.i64.wrap (at_ + later)) l1 r1).1.2]), (108, .tuple #[.agg #[.int .i64 M87.last, .slice M87.sa M87.st.length M87.sc, .slice M87.oa M87.op.length M87.oc], .agg #[.int .i64 v88.t.id, .int .i64 v88.t.ts, .slice v88.ra v88.t.reads.length v88.rc, .slice v88.wa v88.t.writes.length v88.wc], .int .i64 (stampS M31.d t.t (aroundS (IntKind.i64.wrap (at_ + later)) l1 r1).1.1 (aroundS (IntKind.i64.wrap (at_ + later)) l1 r1).1.2).2.2]), (104, .tuple #[.agg #[.int .i64 M87.last, .slice M87.sa M87.st.length M87.sc, .slice M87.oa M87.op.length M87.oc], .agg #[.int .i64 v88.t.id, .int .i64 v88.t.ts, .slice v88.ra v88.t.reads.length v88.rc, .slice v88.wa v88.t.writes.length v88.wc], .int .i64 (stampS M31.d t.t (aroundS (IntKind.i64.wrap (at_ + later)) l1 r1).1.1 (aroundS (IntKind.i64.wrap (at_ + later)) l1 r1).1.2).2.2]), (109, .agg #[.int .i64 M87.last, .slice M87.sa M87.st.length M87.sc, .slice M87.oa M87.op.length M87.oc]), (110, .agg #[.int .i64 v88.t.id, .int .i64 v88.t.ts, .slice v88.ra v88.t.reads.length v88.rc, .slice v88.wa v88.t.writes.length v88.wc]), (111, .int .i64 (stampS M31.d t.t (aroundS (IntKind.i64.wrap (at_ + later)) l1 r1).1.1 (aroundS (IntKind.i64.wrap (at_ + later)) l1 r1).1.2).2.2), (27, .pointer (some ⟨g90, 0, none⟩)), (28, .pointer (some ⟨g92, 0, none⟩)), (29, .int .i64 (stampS M31.d t.t (aroundS (IntKind.i64.wrap (at_ + later)) l1 r1).1.1 (aroundS (IntKind.i64.wrap (at_ + later)) l1 r1).1.2).2.2), (112, .bool true), (113, .bool true), (114, .int .i64 (stampS M31.d t.t (aroundS (IntKind.i64.wrap (at_ + later)) l1 r1).1.1 (aroundS (IntKind.i64.wrap (at_ + later)) l1 r1).1.2).2.2), (115, .bool (!((stampS M31.d t.t (aroundS (IntKind.i64.wrap (at_ + later)) l1 r1).1.1 (aroundS (IntKind.i64.wrap (at_ + later)) l1 r1).1.2).2.2 == 0))), (116, .bool true), (122, .bool true), (123, .bool true), (124, .int .i64 2), (125, .bool true), (126, .bool true), (127, .pointer (some ⟨g49, 1, none⟩)), (128, .int .i64 x43.t.ts), (129, .int .i64 at_), (130, .bool (decide (x43.t.ts < at_))), (131, .bool (decide (x43.t.ts < at_))), (132, .int .i64 (((k : Nat) : Int) + 1))]) ⟨rfl, rfl, rfl, rfl, rfl, rfl, rfl, rfl, rfl, rfl, rfl, rfl, rfl, rfl, rfl, rfl, rfl, rfl, rfl, rfl, rfl, rfl, rfl, rfl, rfl, rfl, rfl, rfl, rfl, rfl, rfl, rfl, rfl, rfl, rfl, rfl, rfl, rfl, rfl, rfl, rfl, rfl, rfl, rfl, rfl, rfl, rfl, rfl, rfl, rfl, trivial⟩
                        refine xt_norm ?_
                        replace hK := hK.sub (d := 92) (v' := .int .i64 (((k + 1) : Nat) : Int)) rfl (by first | rfl | (congr 1; omega))
                        have hd99 : (decide (x43.t.ts < at_)) = true := decide_eq_true (by have h1 := shown_lt (hm31 ▸ txs_at hx44); omega)
                        replace hK := hK.sub (d := 15) (v' := .bool true) rfl (congrArg Value.bool hd99)
                        refine ⟨k + 1, ⟨hK.weak ⟨rfl, rfl, rfl, rfl, rfl, rfl, rfl, rfl, rfl, rfl, trivial⟩, hE.drop (.cons _ (.cons _ (.cons _ (.cons _ (.cons _ (.cons _ (.cons _ (.cons _ (.cons _ (.cons _ (.cons _ (.cons _ (.cons _ (.cons _ (.cons_cons _ (.cons_cons _ (.cons_cons _ (.cons_cons _ (.cons_cons _ (.cons_cons _ (.cons_cons _ (.cons_cons _ (.cons_cons _ (.cons_cons _ (.cons_cons _ (.cons_cons _ (.cons_cons _ (.cons_cons _ .slnil)))))))))))))))))))))))))))), by omega, trivial⟩, by omega⟩
                  · have hc42p := of_decide_eq_false hc42
                    replace hK := hK.sub (d := 93) (v' := .bool false) rfl (congrArg Value.bool hc42)
                    refine vc_cond (t := false) hK (fun _ => rfl) ?_
                    rw [if_neg (by simp)]
                    refine wp_exit ?_
                    refine xt_exit ?_
                    refine xt_exit ?_
                    refine xb_hit ?_
                    refine xt_norm ?_
                    refine wp_seq ?_
                    refine wp_region_lit ?_
                    refine st_op (d := 133) (v' := .bool true) (vs := []) (obs := []) hK rfl (fun _ => by kernel_rfl) trivial rfl rfl rfl ?_
                    clear hK a; intro a hK
                    refine st_op (d := 14) (v' := .bool true) (vs := []) (obs := []) hK rfl (fun _ => by kernel_rfl) trivial rfl rfl rfl ?_
                    clear hK a; intro a hK
                    refine wpList_nil ?_
                    refine xt_norm ?_
                    refine wp_ret ?_
                    refine vc_ret (v' := .bool true) (vs := []) (obs := []) hK (fun _ => by kernel_rfl) trivial rfl ?_
                    exact ⟨rfl, hE.b⟩
              · replace hK := hK.sub (d := 79) (v' := .bool true) rfl (congrArg (fun b => Value.bool !b) hc30)
                refine vc_cond (t := true) hK (fun _ => rfl) ?_
                rw [if_pos rfl]
                refine wp_seq ?_
                refine wp_region_lit ?_
                refine st_op (d := 80) (v' := .bool true) (vs := []) (obs := []) hK rfl (fun _ => by kernel_rfl) trivial rfl rfl rfl ?_
                clear hK a; intro a hK
                refine st_op (d := 14) (v' := .bool true) (vs := []) (obs := []) hK rfl (fun _ => by kernel_rfl) trivial rfl rfl rfl ?_
                clear hK a; intro a hK
                refine wpList_nil ?_
                refine xt_norm ?_
                refine wp_ret ?_
                refine xt_ret ?_
                refine vc_ret (v' := .bool true) (vs := []) (obs := []) hK (fun _ => by kernel_rfl) trivial rfl ?_
                exact ⟨rfl, hE.b⟩
            · replace hK := hK.sub (d := 76) (v' := .bool true) rfl (congrArg (fun b => Value.bool !b) hc29)
              refine st_skip (d := 77) hK rfl rfl rfl ?_
              clear hK a; intro a hK
              refine st_skip (d := 78) hK rfl rfl rfl ?_
              clear hK a; intro a hK
              refine st_op (d := 79) (v' := .bool true) (vs := []) (obs := []) hK rfl (fun _ => by kernel_rfl) trivial rfl rfl rfl ?_
              clear hK a; intro a hK
              refine wpList_nil ?_
              refine xt_norm ?_
              refine vc_cond (t := true) hK (fun _ => rfl) ?_
              rw [if_pos rfl]
              refine wp_seq ?_
              refine wp_region_lit ?_
              refine st_op (d := 80) (v' := .bool true) (vs := []) (obs := []) hK rfl (fun _ => by kernel_rfl) trivial rfl rfl rfl ?_
              clear hK a; intro a hK
              refine st_op (d := 14) (v' := .bool true) (vs := []) (obs := []) hK rfl (fun _ => by kernel_rfl) trivial rfl rfl rfl ?_
              clear hK a; intro a hK
              refine wpList_nil ?_
              refine xt_norm ?_
              refine wp_ret ?_
              refine xt_ret ?_
              refine vc_ret (v' := .bool true) (vs := []) (obs := []) hK (fun _ => by kernel_rfl) trivial rfl ?_
              exact ⟨rfl, hE.b⟩
      · replace hK := hK.sub (d := 45) (v' := .bool true) rfl (congrArg (fun b => Value.bool !b) hc18)
        refine st_skip (d := 46) hK rfl rfl rfl ?_
        clear hK a; intro a hK
        refine st_skip (d := 47) hK rfl rfl rfl ?_
        clear hK a; intro a hK
        refine st_op (d := 48) (v' := .bool true) (vs := []) (obs := []) hK rfl (fun _ => by kernel_rfl) trivial rfl rfl rfl ?_
        clear hK a; intro a hK
        refine st_op (d := 49) (v' := .bool true) (vs := []) (obs := []) hK rfl (fun _ => by kernel_rfl) trivial rfl rfl rfl ?_
        clear hK a; intro a hK
        refine st_skip (d := 50) hK rfl rfl rfl ?_
        clear hK a; intro a hK
        refine st_skip (d := 51) hK rfl rfl rfl ?_
        clear hK a; intro a hK
        refine st_op (d := 52) (v' := .bool true) (vs := []) (obs := []) hK rfl (fun _ => by kernel_rfl) trivial rfl rfl rfl ?_
        clear hK a; intro a hK
        refine wpList_nil ?_
        replace hK := hK.weak (K' := [(3, .int .i64 at_), (4, .int .i64 later), (7, .pointer (some ⟨g1, 0, none⟩)), (8, .pointer (some ⟨g3, 0, none⟩)), (9, .pointer (some ⟨g5, 0, none⟩)), (12, .pointer (some ⟨g7, 0, none⟩)), (13, .pointer (some ⟨g9, 0, none⟩)), (14, .bool false), (15, .bool true), (52, .bool true)]) ⟨rfl, rfl, rfl, rfl, rfl, rfl, rfl, rfl, rfl, rfl, trivial⟩
        refine xt_norm ?_
        refine vc_cond (t := true) hK (fun _ => rfl) ?_
        rw [if_pos rfl]
        refine wp_seq ?_
        refine wp_region_lit ?_
        refine st_op (d := 53) (v' := .bool true) (vs := []) (obs := []) hK rfl (fun _ => by kernel_rfl) trivial rfl rfl rfl ?_
        clear hK a; intro a hK
        refine st_op (d := 14) (v' := .bool true) (vs := []) (obs := []) hK rfl (fun _ => by kernel_rfl) trivial rfl rfl rfl ?_
        clear hK a; intro a hK
        refine wpList_nil ?_
        refine xt_norm ?_
        refine wp_ret ?_
        refine xt_ret ?_
        refine vc_ret (v' := .bool true) (vs := []) (obs := []) hK (fun _ => by kernel_rfl) trivial rfl ?_
        exact ⟨rfl, hE.b⟩
    · replace hK := hK.sub (d := 39) (v' := .bool true) rfl (congrArg (fun b => Value.bool !b) hc15)
      refine st_skip (d := 40) hK rfl rfl rfl ?_
      clear hK a; intro a hK
      refine st_skip (d := 41) hK rfl rfl rfl ?_
      clear hK a; intro a hK
      refine st_skip (d := 42) hK rfl rfl rfl ?_
      clear hK a; intro a hK
      refine st_skip (d := 43) hK rfl rfl rfl ?_
      clear hK a; intro a hK
      refine st_op (d := 44) (v' := .bool true) (vs := []) (obs := []) hK rfl (fun _ => by kernel_rfl) trivial rfl rfl rfl ?_
      clear hK a; intro a hK
      refine st_op (d := 45) (v' := .bool true) (vs := []) (obs := []) hK rfl (fun _ => by kernel_rfl) trivial rfl rfl rfl ?_
      clear hK a; intro a hK
      refine st_skip (d := 46) hK rfl rfl rfl ?_
      clear hK a; intro a hK
      refine st_skip (d := 47) hK rfl rfl rfl ?_
      clear hK a; intro a hK
      refine st_op (d := 48) (v' := .bool true) (vs := []) (obs := []) hK rfl (fun _ => by kernel_rfl) trivial rfl rfl rfl ?_
      clear hK a; intro a hK
      refine st_op (d := 49) (v' := .bool true) (vs := []) (obs := []) hK rfl (fun _ => by kernel_rfl) trivial rfl rfl rfl ?_
      clear hK a; intro a hK
      refine st_skip (d := 50) hK rfl rfl rfl ?_
      clear hK a; intro a hK
      refine st_skip (d := 51) hK rfl rfl rfl ?_
      clear hK a; intro a hK
      refine st_op (d := 52) (v' := .bool true) (vs := []) (obs := []) hK rfl (fun _ => by kernel_rfl) trivial rfl rfl rfl ?_
      clear hK a; intro a hK
      refine wpList_nil ?_
      replace hK := hK.weak (K' := [(3, .int .i64 at_), (4, .int .i64 later), (7, .pointer (some ⟨g1, 0, none⟩)), (8, .pointer (some ⟨g3, 0, none⟩)), (9, .pointer (some ⟨g5, 0, none⟩)), (12, .pointer (some ⟨g7, 0, none⟩)), (13, .pointer (some ⟨g9, 0, none⟩)), (14, .bool false), (15, .bool true), (52, .bool true)]) ⟨rfl, rfl, rfl, rfl, rfl, rfl, rfl, rfl, rfl, rfl, trivial⟩
      refine xt_norm ?_
      refine vc_cond (t := true) hK (fun _ => rfl) ?_
      rw [if_pos rfl]
      refine wp_seq ?_
      refine wp_region_lit ?_
      refine st_op (d := 53) (v' := .bool true) (vs := []) (obs := []) hK rfl (fun _ => by kernel_rfl) trivial rfl rfl rfl ?_
      clear hK a; intro a hK
      refine st_op (d := 14) (v' := .bool true) (vs := []) (obs := []) hK rfl (fun _ => by kernel_rfl) trivial rfl rfl rfl ?_
      clear hK a; intro a hK
      refine wpList_nil ?_
      refine xt_norm ?_
      refine wp_ret ?_
      refine xt_ret ?_
      refine vc_ret (v' := .bool true) (vs := []) (obs := []) hK (fun _ => by kernel_rfl) trivial rfl ?_
      exact ⟨rfl, hE.b⟩
  · replace hK := hK.sub (d := 34) (v' := .bool true) rfl (congrArg (fun b => Value.bool !b) hc13)
    refine st_skip (d := 35) hK rfl rfl rfl ?_
    clear hK a; intro a hK
    refine st_skip (d := 36) hK rfl rfl rfl ?_
    clear hK a; intro a hK
    refine st_skip (d := 37) hK rfl rfl rfl ?_
    clear hK a; intro a hK
    refine st_op (d := 38) (v' := .bool true) (vs := []) (obs := []) hK rfl (fun _ => by kernel_rfl) trivial rfl rfl rfl ?_
    clear hK a; intro a hK
    refine st_op (d := 39) (v' := .bool true) (vs := []) (obs := []) hK rfl (fun _ => by kernel_rfl) trivial rfl rfl rfl ?_
    clear hK a; intro a hK
    refine st_skip (d := 40) hK rfl rfl rfl ?_
    clear hK a; intro a hK
    refine st_skip (d := 41) hK rfl rfl rfl ?_
    clear hK a; intro a hK
    refine st_skip (d := 42) hK rfl rfl rfl ?_
    clear hK a; intro a hK
    refine st_skip (d := 43) hK rfl rfl rfl ?_
    clear hK a; intro a hK
    refine st_op (d := 44) (v' := .bool true) (vs := []) (obs := []) hK rfl (fun _ => by kernel_rfl) trivial rfl rfl rfl ?_
    clear hK a; intro a hK
    refine st_op (d := 45) (v' := .bool true) (vs := []) (obs := []) hK rfl (fun _ => by kernel_rfl) trivial rfl rfl rfl ?_
    clear hK a; intro a hK
    refine st_skip (d := 46) hK rfl rfl rfl ?_
    clear hK a; intro a hK
    refine st_skip (d := 47) hK rfl rfl rfl ?_
    clear hK a; intro a hK
    refine st_op (d := 48) (v' := .bool true) (vs := []) (obs := []) hK rfl (fun _ => by kernel_rfl) trivial rfl rfl rfl ?_
    clear hK a; intro a hK
    refine st_op (d := 49) (v' := .bool true) (vs := []) (obs := []) hK rfl (fun _ => by kernel_rfl) trivial rfl rfl rfl ?_
    clear hK a; intro a hK
    refine st_skip (d := 50) hK rfl rfl rfl ?_
    clear hK a; intro a hK
    refine st_skip (d := 51) hK rfl rfl rfl ?_
    clear hK a; intro a hK
    refine st_op (d := 52) (v' := .bool true) (vs := []) (obs := []) hK rfl (fun _ => by kernel_rfl) trivial rfl rfl rfl ?_
    clear hK a; intro a hK
    refine wpList_nil ?_
    replace hK := hK.weak (K' := [(3, .int .i64 at_), (4, .int .i64 later), (7, .pointer (some ⟨g1, 0, none⟩)), (8, .pointer (some ⟨g3, 0, none⟩)), (9, .pointer (some ⟨g5, 0, none⟩)), (12, .pointer (some ⟨g7, 0, none⟩)), (13, .pointer (some ⟨g9, 0, none⟩)), (14, .bool false), (15, .bool true), (52, .bool true)]) ⟨rfl, rfl, rfl, rfl, rfl, rfl, rfl, rfl, rfl, rfl, trivial⟩
    refine xt_norm ?_
    refine vc_cond (t := true) hK (fun _ => rfl) ?_
    rw [if_pos rfl]
    refine wp_seq ?_
    refine wp_region_lit ?_
    refine st_op (d := 53) (v' := .bool true) (vs := []) (obs := []) hK rfl (fun _ => by kernel_rfl) trivial rfl rfl rfl ?_
    clear hK a; intro a hK
    refine st_op (d := 14) (v' := .bool true) (vs := []) (obs := []) hK rfl (fun _ => by kernel_rfl) trivial rfl rfl rfl ?_
    clear hK a; intro a hK
    refine wpList_nil ?_
    refine xt_norm ?_
    refine wp_ret ?_
    refine xt_ret ?_
    refine vc_ret (v' := .bool true) (vs := []) (obs := []) hK (fun _ => by kernel_rfl) trivial rfl ?_
    exact ⟨rfl, hE.b⟩
end Go.Proofs.Ytcofkflihleckaa
