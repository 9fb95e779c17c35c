/-
  The walk of the law CommitWaits.
-/
import Derived.Test.YtficjpfhakggmaaPr34
import Derived.Test.YtficjpfhakggmaaVc
namespace Go.Proofs.Ytficjpfhakggmaa
open Go.RowKit Go.Maps
theorem lastV_all {l : List Ver} (h : Sto l) {k T : Int} (hT : T ≤ 3000000000000000) (ha : ∀ v ∈ l, v.ts ≤ T) : lastV l k T = lastV l k 3000000000000000 := by
  rw [lastV_fold h.up, lastV_fold h.up]
  unfold atFold
  have : ∀ (m : List Ver) (a : Ver), (∀ v ∈ m, v.ts ≤ T) → m.foldl (fun a v => if v.key = k ∧ v.ts ≤ T then v else a) a = m.foldl (fun a v => if v.key = k ∧ v.ts ≤ 3000000000000000 then v else a) a := by
    intro m
    induction m with
    | nil => intro a _; rfl
    | cons x m ih =>
      intro a hm
      have hx := hm x (by simp)
      rw [List.foldl_cons, List.foldl_cons, ih _ (fun v hv => hm v (by simp [hv]))]
      congr 1
      by_cases hk : x.key = k
      · rw [if_pos ⟨hk, hx⟩, if_pos ⟨hk, by omega⟩]
      · rw [if_neg (fun h => hk h.1), if_neg (fun h => hk h.1)]
  exact this l _ ha
theorem maxTs_lt {last : Int} {st : List Ver} {op : List Tx} (h : leadB last st op = true) {t : Tx} (ht : t ∈ op) {v : Ver} (hv : v ∈ st) : v.ts < t.ts := by
  have h1 := (maxTs_ge st 0).2 v hv
  have h2 := (chain_gt (lead_chain h) t ht).1
  have h3 : v.ts ≤ maxTs st := h1
  omega
theorem waits_law {D : LD} {lo hi : Int} (hok : leadB D.last D.st D.op = true) (hiv : ivB lo hi = true) {j i : Nat} {t : Tx} {x : Wr} (ht : (showS D lo hi).2.1[j]? = some t) (hx : t.writes[i]? = some x)
    (h0 : (readLL (showS D lo hi).1 x.key (max hi 1) lo hi).2.2 = 0) (h1 : (readLL (showS D lo hi).1 x.key (max hi 1) lo hi).2.1 = true) :
    (readLL (showS D lo hi).1 x.key (max hi 1) lo hi).1.ts = (newestRS (showS D lo hi).1.st x.key).1 ∧ t.ts ≤ (newestRS (showS D lo hi).1.st x.key).1 := by
  have hb := ivB_bd hiv
  have hrp := read_ok h0
  have hs0 := show_all hok hiv
  obtain ⟨_, _, hr⟩ := show_ok hs0
  rw [read_of hrp] at h0 h1 ⊢
  have hsl := (shown_law hs0).1
  have hsto := (lead_iff.1 hsl).sto
  have htk : t ∈ D.op.take (pastN D.op lo) := by
    rw [hr] at ht
    exact List.mem_of_getElem? ht
  have hall : ∀ v ∈ (showS D lo hi).1.st, v.ts ≤ max hi 1 := by
    intro v hv
    rw [hr] at hv
    have hv' : v ∈ stAt D.st D.op (pastN D.op lo) 0 := hv
    rw [stAt_zero] at hv'
    rcases List.mem_append.1 ((puts_perm _ _).mem_iff.1 hv') with hv' | hv'
    · obtain ⟨u, hu, huv⟩ := List.mem_flatMap.1 hv'
      rw [verT_ts huv]
      obtain ⟨q, hq, rfl⟩ := List.getElem_of_mem hu
      rw [List.getElem_take]
      rw [List.length_take] at hq
      have := pastN_lo (l := D.op) (a := lo) (i := q) (by omega) (by omega)
      omega
    · have h2 := maxTs_lt hok (List.mem_of_mem_take htk) hv'
      have h3 := shown_lt ht
      omega
  have hmem : (⟨x.key, t.ts, x.value, x.gone⟩ : Ver) ∈ (showS D lo hi).1.st := by
    rw [hr]
    show _ ∈ stAt D.st D.op (pastN D.op lo) 0
    rw [stAt_zero]
    refine (puts_perm _ _).mem_iff.2 (List.mem_append_left _ (List.mem_flatMap.2 ⟨t, htk, ?_⟩))
    exact List.mem_map.2 ⟨x, List.mem_of_getElem? hx, rfl⟩
  have hkey : keyB x.key = true := hrp.k
  have hst : stampB (max hi 1) = true := hrp.t
  have hv : validB (showS D lo hi).1.st = true := (sto_iff _).2 hsto
  have hn : (newestRS (showS D lo hi).1.st x.key).1 = newestR (showS D lo hi).1.st x.key := by
    unfold newestRS
    rw [hv, hkey]
    rfl
  have hge := (newestR_ge (l := (showS D lo hi).1.st) (k := x.key) (b := 0)).2
  rw [hn]
  refine ⟨?_, hge _ hmem rfl⟩
  rw [← newest_eq hsto, ← lastV_all hsto (T := max hi 1) (by omega) hall]
  unfold atS at h1 ⊢
  rw [hv, hkey, hst] at h1 ⊢
  simp only [Bool.not_true, Bool.or_self, Bool.false_eq_true, if_false] at h1 ⊢
  split
  · next hc => rw [if_pos hc] at h1; simp at h1
  · rfl
theorem open_ge {D : LD} {lo : Int} {k : Nat} {x : Tx} (hok : leadB D.last D.st D.op = true) (h : (D.op.drop (pastN D.op lo))[k]? = some x) : lo ≤ x.ts := by
  obtain ⟨hk, rfl⟩ := List.getElem?_eq_some_iff.1 h
  rw [List.getElem_drop]
  rw [List.length_drop] at hk
  exact pastN_hi (lead_chain hok) (by omega) (by omega)

set_option maxRecDepth 100000 in
set_option maxHeartbeats 16000000 in
theorem waits_any (L : LdV) (lo hi which : Int) (w : World) (hw8 : 0 ≤ which ∧ which ≤ 255) (h : LdW w L) : Calls Try.prog 9 #[.agg #[.int .i64 L.last, .slice L.sa L.st.length L.sc, .slice L.oa L.op.length L.oc], .agg #[.int .i64 lo, .int .i64 hi], .int .u8 which] w fun e w' => e = .returned (.bool true) ∧ Below w.heap.size w w' := by
  refine vc_enter (n := 173) Try.func9 rfl rfl rfl (fun a hK => ?_)
  replace hK := hK.weak (K' := [(0, .agg #[.int .i64 L.last, .slice L.sa L.st.length L.sc, .slice L.oa L.op.length L.oc]), (1, .agg #[.int .i64 lo, .int .i64 hi]), (2, .int .u8 which)]) ⟨rfl, rfl, rfl, trivial⟩
  have hE := Ev.start w
  replace hE := hE.dat (p := fun W => LdW W L) (fun W hW => LdW.then_ h hW)
  replace hE := hE.dat (p := fun W => RS TxV.cells W L.oa L.op) (fun W hW => (LdW.then_ h hW).o.row)
  refine wp_seq ?_
  refine wp_region_lit ?_
  refine st_new (d := 3) (v := fun g => .pointer (some ⟨g, 0, none⟩)) (cs := #[.int .i64 L.last, .slice L.sa L.st.length L.sc, .slice L.oa L.op.length L.oc]) (t := 25) hK hE rfl (fun _ _ => by kernel_rfl) rfl rfl ?_
  clear hK hE a; intro a g1 w2 _ _ hK hE
  refine st_new (d := 4) (v := fun g => .pointer (some ⟨g, 0, none⟩)) (cs := #[.int .i64 lo, .int .i64 hi]) (t := 31) hK hE rfl (fun _ _ => by kernel_rfl) rfl rfl ?_
  clear hK hE a; intro a g3 w4 _ _ hK hE
  refine st_op (d := 6) (v' := .bool false) (vs := []) (obs := []) hK rfl (fun _ => by kernel_rfl) trivial rfl rfl rfl ?_
  clear hK a; intro a hK
  refine wpList_nil ?_
  refine xt_norm ?_
  refine wp_seq ?_
  refine wp_region_lit ?_
  refine st_call (d := 25) (f := 11) (args := #[]) hK rfl (fun _ => by kernel_rfl) rfl rfl (head34_any _) ?_
  rintro e w5 ⟨rfl, hb⟩
  refine ⟨_, rfl, ?_⟩
  clear hK a; intro a hK
  replace hE := hE.call hb
  clear hb
  refine st_op (d := 7) (v' := .bool true) (vs := []) (obs := []) hK rfl (fun _ => by kernel_rfl) trivial rfl rfl rfl ?_
  clear hK a; intro a hK
  refine wpList_nil ?_
  refine xt_norm ?_
  refine wp_seq ?_
  refine wp_seq ?_
  refine wp_region_lit ?_
  refine st_op (d := 26) (v' := .agg #[.int .i64 L.last, .slice L.sa L.st.length L.sc, .slice L.oa L.op.length L.oc]) (vs := [.int .i64 L.last, .slice L.sa L.st.length L.sc, .slice L.oa L.op.length L.oc]) (obs := [(⟨g1, 0, none⟩, .int .i64 L.last), (⟨g1, 1, none⟩, .slice L.sa L.st.length L.sc), (⟨g1, 2, none⟩, .slice L.oa L.op.length L.oc)]) hK rfl (fun _ => by kernel_rfl) ⟨((hE.blk 1 rfl).cell 0).trans rfl, ((hE.blk 1 rfl).cell 1).trans rfl, ((hE.blk 1 rfl).cell 2).trans rfl, trivial⟩ rfl rfl rfl ?_
  clear hK a; intro a hK
  refine st_call (d := 27) (f := 27) (args := #[.agg #[.int .i64 L.last, .slice L.sa L.st.length L.sc, .slice L.oa L.op.length L.oc]]) hK rfl (fun _ => by kernel_rfl) rfl rfl (usable_any L _ (hE.get 3 rfl)) ?_
  rintro e w6 ⟨rfl, hb⟩
  refine ⟨_, rfl, ?_⟩
  clear hK a; intro a hK
  replace hE := hE.call hb
  clear hb
  refine st_op (d := 28) (v' := .bool (!(fewLB L.d && L.ok))) (vs := []) (obs := []) hK rfl (fun _ => by kernel_rfl) trivial rfl rfl rfl ?_
  clear hK a; intro a hK
  refine st_op (d := 29) (v' := .bool (!(fewLB L.d && L.ok))) (vs := []) (obs := []) hK rfl (fun _ => by kernel_rfl) trivial rfl rfl rfl ?_
  clear hK a; intro a hK
  rcases Bool.eq_false_or_eq_true (fewLB L.d && L.ok) with hc7 | hc7
  · have hus_ := (Bool.and_eq_true _ _).mp hc7
    have hfew := hus_.1; have hok := hus_.2; have hLS := few_S hfew; have hbd := lead_bd hok; clear hus_
    have hfs := few_small hfew
    have hol : L.op.length ≤ 30 := by have := hfs.2.2; rw [show L.d.op.length = L.op.length from txs_len _] at this; exact this
    replace hK := hK.sub (d := 29) (v' := .bool false) rfl (congrArg (fun b => Value.bool !b) hc7)
    refine st_op (d := 30) (v' := .agg #[.int .i64 lo, .int .i64 hi]) (vs := [.int .i64 lo, .int .i64 hi]) (obs := [(⟨g3, 0, none⟩, .int .i64 lo), (⟨g3, 1, none⟩, .int .i64 hi)]) hK rfl (fun _ => by kernel_rfl) ⟨((hE.blk 0 rfl).cell 0).trans rfl, ((hE.blk 0 rfl).cell 1).trans rfl, trivial⟩ rfl rfl rfl ?_
    clear hK a; intro a hK
    refine st_call (d := 31) (f := 29) (args := #[.agg #[.int .i64 lo, .int .i64 hi]]) hK rfl (fun _ => by kernel_rfl) rfl rfl (rIv_any lo hi _) ?_
    rintro e w8 ⟨rfl, hb⟩
    refine ⟨_, rfl, ?_⟩
    clear hK a; intro a hK
    replace hE := hE.call hb
    clear hb
    refine st_op (d := 32) (v' := .bool (!(ivB lo hi))) (vs := []) (obs := []) hK rfl (fun _ => by kernel_rfl) trivial rfl rfl rfl ?_
    clear hK a; intro a hK
    refine st_op (d := 33) (v' := .bool (!(ivB lo hi))) (vs := []) (obs := []) hK rfl (fun _ => by kernel_rfl) trivial rfl rfl rfl ?_
    clear hK a; intro a hK
    refine wpList_nil ?_
    refine xt_norm ?_
    rcases Bool.eq_false_or_eq_true (ivB lo hi) with hc9 | hc9
    · have hib := ivB_bd hc9; have hiv := hc9
      replace hK := hK.sub (d := 33) (v' := .bool false) rfl (congrArg (fun b => Value.bool !b) hc9)
      refine vc_cond (t := false) hK (fun _ => rfl) ?_
      rw [if_neg (by simp)]
      refine wp_skip ?_
      refine xt_norm ?_
      refine wp_seq ?_
      refine wp_region_lit ?_
      refine st_op (d := 36) (v' := .agg #[.int .i64 L.last, .slice L.sa L.st.length L.sc, .slice L.oa L.op.length L.oc]) (vs := [.int .i64 L.last, .slice L.sa L.st.length L.sc, .slice L.oa L.op.length L.oc]) (obs := [(⟨g1, 0, none⟩, .int .i64 L.last), (⟨g1, 1, none⟩, .slice L.sa L.st.length L.sc), (⟨g1, 2, none⟩, .slice L.oa L.op.length L.oc)]) hK rfl (fun _ => by kernel_rfl) ⟨((hE.blk 1 rfl).cell 0).trans rfl, ((hE.blk 1 rfl).cell 1).trans rfl, ((hE.blk 1 rfl).cell 2).trans rfl, trivial⟩ rfl rfl rfl ?_
      clear hK a; intro a hK
      refine st_op (d := 37) (v' := .agg #[.int .i64 lo, .int .i64 hi]) (vs := [.int .i64 lo, .int .i64 hi]) (obs := [(⟨g3, 0, none⟩, .int .i64 lo), (⟨g3, 1, none⟩, .int .i64 hi)]) hK rfl (fun _ => by kernel_rfl) ⟨((hE.blk 0 rfl).cell 0).trans rfl, ((hE.blk 0 rfl).cell 1).trans rfl, trivial⟩ rfl rfl rfl ?_
      clear hK a; intro a hK
      refine st_call (d := 38) (f := 20) (args := #[.agg #[.int .i64 L.last, .slice L.sa L.st.length L.sc, .slice L.oa L.op.length L.oc], .agg #[.int .i64 lo, .int .i64 hi]]) hK rfl (fun _ => by kernel_rfl) rfl rfl (show_any L lo hi _ hLS (hE.get 3 rfl)) ?_
      rintro e w14 ⟨M10, A11, c12, m13, rfl, hM10, hm10, hl10, ht10, hc10, hk10, hb⟩
      refine ⟨_, rfl, ?_⟩
      clear hK a; intro a hK
      replace hE := hE.call hb
      clear hb
      replace hE := hE.dat (p := fun W => LdW W M10) (fun W hW => LdW.then_ hl10 hW)
      replace hE := hE.dat (p := fun W => TS W A11 m13) (fun W hW => TS.then_ ht10 hW)
      replace hE := hE.dat (p := fun W => RS TxV.cells W M10.oa M10.op) (fun W hW => (LdW.then_ hl10 hW).o.row)
      simp only [maxLen] at hk10
      have hsh := show_all (D := L.d) (lo := lo) (hi := hi) hok hiv
      have hsr := (show_ok hsh).2.2
      have hLSM10 := LdS.shown hLS hsh hM10
      have htm : txs m13 = L.d.op.take (pastN L.d.op lo) := by rw [hm10, hsr]
      have hto : txs M10.op = L.d.op.drop (pastN L.d.op lo) := by rw [op_of hM10, hsr]
      have hml : m13.length ≤ 30 := by have := congrArg List.length htm; rw [txs_len, List.length_take] at this; have := hfs.2.2; omega
      have hMl : M10.op.length ≤ 30 := by have := congrArg List.length hto; rw [txs_len, List.length_drop] at this; have := hfs.2.2; omega
      refine st_op (d := 35) (v' := .tuple #[.agg #[.int .i64 M10.last, .slice M10.sa M10.st.length M10.sc, .slice M10.oa M10.op.length M10.oc], .slice A11 m13.length c12, .int .i64 (showS L.d lo hi).2.2]) (vs := []) (obs := []) hK rfl (fun _ => by kernel_rfl) trivial rfl rfl rfl ?_
      clear hK a; intro a hK
      refine st_op (d := 39) (v' := .agg #[.int .i64 M10.last, .slice M10.sa M10.st.length M10.sc, .slice M10.oa M10.op.length M10.oc]) (vs := []) (obs := []) hK rfl (fun _ => by kernel_rfl) trivial rfl rfl rfl ?_
      clear hK a; intro a hK
      refine st_op (d := 40) (v' := .slice A11 m13.length c12) (vs := []) (obs := []) hK rfl (fun _ => by kernel_rfl) trivial rfl rfl rfl ?_
      clear hK a; intro a hK
      refine st_op (d := 41) (v' := .int .i64 (showS L.d lo hi).2.2) (vs := []) (obs := []) hK rfl (fun _ => by kernel_rfl) trivial rfl rfl rfl ?_
      clear hK a; intro a hK
      refine st_new (d := 8) (v := fun g => .pointer (some ⟨g, 0, none⟩)) (cs := #[.int .i64 0, .slice none 0 0, .slice none 0 0]) (t := 25) hK hE rfl (fun _ _ => by kernel_rfl) rfl rfl ?_
      clear hK hE a; intro a g15 w16 _ _ hK hE
      refine st_store2 0 [(0, .int .i64 M10.last), (1, .slice M10.sa M10.st.length M10.sc), (2, .slice M10.oa M10.op.length M10.oc)] hK hE rfl rfl (fun _ => by kernel_rfl) rfl rfl rfl ?_
      clear hE; intro w17 hs_ hk_ hE
      clear hs_ hk_
      refine st_op (d := 9) (v' := .slice A11 m13.length c12) (vs := []) (obs := []) hK rfl (fun _ => by kernel_rfl) trivial rfl rfl rfl ?_
      clear hK a; intro a hK
      refine st_op (d := 10) (v' := .int .i64 (showS L.d lo hi).2.2) (vs := []) (obs := []) hK rfl (fun _ => by kernel_rfl) trivial rfl rfl rfl ?_
      clear hK a; intro a hK
      refine wpList_nil ?_
      refine xt_norm ?_
      refine wp_seq ?_
      refine wp_seq ?_
      have hE0 := hE
      refine hd_begin rfl ?_
      replace hE := hE.drew
      have hS : Below w17.heap.size w17 w17.drew := (Below.refl _ _).drew
      generalize w17.drew = w18 at hE hS ⊢
      refine hd_take (i := 0) (d := 42) (v' := .int .i64 (showS L.d lo hi).2.2) (vs := []) (obs := []) #[true, false, false, false, false, false, false, false, false, false, false, false, false, false] (by kernel_rfl) hK hS rfl (by kernel_rfl) (by kernel_rfl) (by kernel_rfl) (by kernel_rfl) (fun _ _ _ h => h) (fun _ => by kernel_rfl) (fun W hW => trivial) rfl rfl rfl ?_
      clear hK a; intro a hK
      refine hd_take (i := 1) (d := 43) (v' := .bool ((showS L.d lo hi).2.2 != 0)) (v := .bool (!((showS L.d lo hi).2.2 == 0))) (vs := []) (obs := []) #[true, true, false, false, false, false, false, false, false, false, false, false, false, false] (by kernel_rfl) hK hS rfl (by kernel_rfl) (by kernel_rfl) (by kernel_rfl) (by kernel_rfl) (fun _ _ _ h => h) (fun _ => by kernel_rfl) (fun W hW => trivial) rfl rfl rfl ?_
      clear hK a; intro a hK
      refine hd_take (i := 2) (d := 44) (v' := .bool (!((showS L.d lo hi).2.2 == 0))) (vs := []) (obs := []) #[true, true, true, false, false, false, false, false, false, false, false, false, false, false] (by kernel_rfl) hK hS rfl (by kernel_rfl) (by kernel_rfl) (by kernel_rfl) (by kernel_rfl) (fun _ _ _ h => h) (fun _ => by kernel_rfl) (fun W hW => trivial) rfl rfl rfl ?_
      clear hK a; intro a hK
      have hd19 : (((showS L.d lo hi).2.2 == 0)) = true := beq_iff_eq.2 hsh
      replace hK := hK.sub (d := 44) (v' := .bool false) rfl (congrArg (fun b => Value.bool !b) hd19)
      refine hd_take (i := 3) (d := 45) (v' := .pointer (some ⟨g1, 2, none⟩)) (vs := []) (obs := []) #[true, true, true, true, false, false, false, false, false, false, false, false, false, false] (by kernel_rfl) hK hS rfl (by kernel_rfl) (by kernel_rfl) (by kernel_rfl) (by kernel_rfl) (fun _ _ _ h => h) (fun _ => by kernel_rfl) (fun W hW => trivial) rfl rfl rfl ?_
      clear hK a; intro a hK
      refine hd_take (i := 4) (d := 46) (v' := .slice L.oa L.op.length L.oc) (vs := [.slice L.oa L.op.length L.oc]) (obs := [(⟨g1, 2, none⟩, .slice L.oa L.op.length L.oc)]) #[true, true, true, true, true, false, false, false, false, false, false, false, false, false] (by kernel_rfl) hK hS rfl (by kernel_rfl) (by kernel_rfl) (by kernel_rfl) (by kernel_rfl) (fun _ _ _ h => h) (fun _ => by kernel_rfl) (fun W hW => ⟨(((hE0.call hW).blk 5 rfl).cell 2).trans rfl, trivial⟩) rfl rfl rfl ?_
      clear hK a; intro a hK
      refine hd_take (i := 6) (d := 48) (v' := .slice A11 m13.length c12) (vs := []) (obs := []) #[true, true, true, true, true, false, true, false, false, false, false, false, false, false] (by kernel_rfl) hK hS rfl (by kernel_rfl) (by kernel_rfl) (by kernel_rfl) (by kernel_rfl) (fun _ _ _ h => h) (fun _ => by kernel_rfl) (fun W hW => trivial) rfl rfl rfl ?_
      clear hK a; intro a hK
      refine hd_take (i := 8) (d := 50) (v' := .pointer (some ⟨g15, 2, none⟩)) (vs := []) (obs := []) #[true, true, true, true, true, false, true, false, true, false, false, false, false, false] (by kernel_rfl) hK hS rfl (by kernel_rfl) (by kernel_rfl) (by kernel_rfl) (by kernel_rfl) (fun _ _ _ h => h) (fun _ => by kernel_rfl) (fun W hW => trivial) rfl rfl rfl ?_
      clear hK a; intro a hK
      refine hd_take (i := 9) (d := 51) (v' := .slice M10.oa M10.op.length M10.oc) (vs := [.slice M10.oa M10.op.length M10.oc]) (obs := [(⟨g15, 2, none⟩, .slice M10.oa M10.op.length M10.oc)]) #[true, true, true, true, true, false, true, false, true, true, false, false, false, false] (by kernel_rfl) hK hS rfl (by kernel_rfl) (by kernel_rfl) (by kernel_rfl) (by kernel_rfl) (fun _ _ _ h => h) (fun _ => by kernel_rfl) (fun W hW => ⟨(((hE0.call hW).blk 0 rfl).cell 2).trans rfl, trivial⟩) rfl rfl rfl ?_
      clear hK a; intro a hK
      refine hd_all [5] (by kernel_rfl) (by simp) ⟨?_, trivial⟩
      refine hd_new (d := 47) (v := fun g => .slice (some ⟨g, 0, none⟩) 0 0) (cs := #[]) (t := 29) rfl hK hE hS rfl (fun _ _ => by kernel_rfl) rfl rfl ?_
      have hs_ := hS.size; clear hK hE hS a; intro a g20 w21 hS hg_ hK hE
      have hbg20 : w17.heap.size ≤ g20 := by omega
      clear hg_ hs_
      refine hd_all [7] (by kernel_rfl) (by simp) ⟨?_, trivial⟩
      replace hE := hE.own 0 4 0 rfl rfl (by simp only [maxLen]; omega) rfl
      obtain ⟨ti_, hti_, hz_, hm_, hby_⟩ := info_parts (show (Try.prog.info? 29).map (fun i => (i.zero, i.size, i.bytes)) = some (some (.agg #[.int .i64 0, .int .i64 0, .slice none 0 0, .slice none 0 0]), 4, 64) from by kernel_rfl)
      refine hd_ap (d := 49) (news := (m13.flatMap TxV.cells)) (k2 := m13.length) (xs2 := (m13.flatMap TxV.cells)) 0 (Nat.zero_add _) (List.nil_append _) rfl hS hK hE rfl rfl (fun _ => rfl) (fun _ => rfl) Try.underlying23 hti_ hz_ hm_ hby_ rfl (by decide) rfl (fun g hg => by injection hg with hg; subst hg; exact hbg20) (by rw [flat_len TxV.cells 4 TxV.len]) (TS.row (hE.get 3 rfl)) (tx_one m13) (by simp only [maxLen]; omega) (by omega) rfl rfl ?_
      clear hK hE a hS ti_ hti_ hz_ hm_ hby_; intro A22 c23 a w24 hl25 hm26 hS hr27 hK hev_
      have hE := hev_ _ rfl
      clear hev_
      refine hd_all [10] (by kernel_rfl) (by simp) ⟨?_, trivial⟩
      obtain ⟨ti_, hti_, hz_, hm_, hby_⟩ := info_parts (show (Try.prog.info? 29).map (fun i => (i.zero, i.size, i.bytes)) = some (some (.agg #[.int .i64 0, .int .i64 0, .slice none 0 0, .slice none 0 0]), 4, 64) from by kernel_rfl)
      refine hd_ap (d := 52) (news := (M10.op.flatMap TxV.cells)) (k2 := (m13 ++ M10.op).length) (xs2 := ((m13 ++ M10.op).flatMap TxV.cells)) 0 (by simp) (by rw [List.flatMap_append]; first | done | rfl) rfl hS hK hE rfl rfl (fun _ => rfl) (fun _ => rfl) Try.underlying23 hti_ hz_ hm_ hby_ rfl (by decide) rfl hr27 (by rw [flat_len TxV.cells 4 TxV.len]) (hE.get 2 rfl) (tx_one M10.op) (by simp only [maxLen]; omega) (by omega) rfl rfl ?_
      clear hK hE a hS ti_ hti_ hz_ hm_ hby_; intro A28 c29 a w30 hl31 hm32 hS hr33 hK hev_
      have hE := hev_ _ rfl
      clear hev_
      refine hd_all [11] (by kernel_rfl) (by simp) ⟨?_, trivial⟩
      refine hd_call (d := 53) (f := 22) (args := #[.slice L.oa L.op.length L.oc, .slice A28 (m13 ++ M10.op).length c29]) rfl hK hS rfl (fun _ => by kernel_rfl) rfl rfl (rSameTxs_any L.oa A28 L.oc c29 L.op (m13 ++ M10.op) _ (fun v hv => hfs.2.1.each v.t (List.mem_map.2 ⟨v, hv, rfl⟩)) (by omega) (by simp; omega) (LdW.o (hE.get 8 rfl)) ⟨hE.rd 0 rfl, fun x hx => by rcases List.mem_append.1 hx with hx | hx; exact (TS.each (hE.get 3 rfl)) x hx; exact (LdW.o (hE.get 4 rfl)).each x hx⟩) ?_
      rintro e w34 ⟨rfl, hb⟩
      refine ⟨_, rfl, hb, ?_⟩
      clear hK a hS; intro a hK hS
      replace hE := hE.call hb
      clear hb
      refine hd_take (i := 12) (d := 54) (v' := .bool (!(decide (txs L.op = txs (m13 ++ M10.op))))) (vs := []) (obs := []) #[true, true, true, true, true, true, true, true, true, true, true, true, true, false] (by kernel_rfl) hK hS rfl (by kernel_rfl) (by kernel_rfl) (by kernel_rfl) (by kernel_rfl) (fun _ _ _ h => h) (fun _ => by kernel_rfl) (fun W hW => trivial) rfl rfl rfl ?_
      clear hK a; intro a hK
      refine hd_take (i := 13) (d := 55) (v' := .bool (!(decide (txs L.op = txs (m13 ++ M10.op))))) (vs := []) (obs := []) #[true, true, true, true, true, true, true, true, true, true, true, true, true, true] (by kernel_rfl) hK hS rfl (by kernel_rfl) (by kernel_rfl) (by kernel_rfl) (by kernel_rfl) (fun _ _ _ h => h) (fun _ => by kernel_rfl) (fun W hW => trivial) rfl rfl rfl ?_
      clear hK a; intro a hK
      refine hd_done (by kernel_rfl) ?_ _
      clear hE0 hS
      replace hK := hK.weak (K' := [(2, .int .u8 which), (4, .pointer (some ⟨g3, 0, none⟩)), (6, .bool false), (7, .bool true), (8, .pointer (some ⟨g15, 0, none⟩)), (9, .slice A11 m13.length c12), (55, .bool (!(decide (txs L.op = txs (m13 ++ M10.op)))))]) ⟨rfl, rfl, rfl, rfl, rfl, rfl, rfl, trivial⟩
      refine xt_norm ?_
      have hd35 : (decide (txs L.op = txs (m13 ++ M10.op))) = true := decide_eq_true (by show L.d.op = _; unfold txs; rw [List.map_append]; show _ = txs m13 ++ txs M10.op; rw [htm, hto, List.take_append_drop])
      replace hK := hK.sub (d := 55) (v' := .bool false) rfl (congrArg (fun b => Value.bool !b) hd35)
      refine vc_cond (t := false) hK (fun _ => rfl) ?_
      rw [if_neg (by simp)]
      refine wp_skip ?_
      refine xt_norm ?_
      refine wp_seq ?_
      refine wp_seq ?_
      refine wp_region_lit ?_
      refine st_op (d := 56) (v' := .slice A11 m13.length c12) (vs := []) (obs := []) hK rfl (fun _ => by kernel_rfl) trivial rfl rfl rfl ?_
      clear hK a; intro a hK
      refine st_op (d := 57) (v' := .int .i64 ((m13.length : Nat) : Int)) (vs := []) (obs := []) hK rfl (fun _ => by kernel_rfl) trivial rfl rfl rfl ?_
      clear hK a; intro a hK
      refine st_op (d := 58) (v' := .int .i64 0) (vs := []) (obs := []) hK rfl (fun _ => by kernel_rfl) trivial rfl rfl rfl ?_
      clear hK a; intro a hK
      refine wpList_nil ?_
      refine xt_norm ?_
      refine wp_block ?_
      refine vc_loop (γ := Nat) (fun k a w_ => Kn 173 [(2, .int .u8 which), (4, .pointer (some ⟨g3, 0, none⟩)), (6, .bool false), (8, .pointer (some ⟨g15, 0, none⟩)), (9, .slice A11 m13.length c12), (56, .slice A11 m13.length c12), (57, .int .i64 ((m13.length : Nat) : Int)), (58, .int .i64 ((k : Nat) : Int)), (7, .bool true)] a ∧ Ev w w_ [.own 29 4 (.slice A28 (m13 ++ M10.op).length c29) ((m13 ++ M10.op).length) (((m13 ++ M10.op).flatMap TxV.cells)), .blk g15 25 #[.int .i64 M10.last, .slice M10.sa M10.st.length M10.sc, .slice M10.oa M10.op.length M10.oc], .dat (fun W => RS TxV.cells W M10.oa M10.op), .dat (fun W => TS W A11 m13), .dat (fun W => LdW W M10), .blk g3 31 #[.int .i64 lo, .int .i64 hi], .blk g1 25 #[.int .i64 L.last, .slice L.sa L.st.length L.sc, .slice L.oa L.op.length L.oc], .dat (fun W => RS TxV.cells W L.oa L.op), .dat (fun W => LdW W L)] ∧ (k ≤ m13.length) ∧ (True)) (fun k => m13.length - k) 0 ?_ ?_
      · replace hK := hK.sub (d := 58) (v' := .int .i64 ((0 : Nat) : Int)) rfl (by first | rfl | (congr 1; omega))
        replace hK := hK.sub (d := 7) (v' := .bool true) rfl (by first | rfl | (congr 1; omega))
        refine ⟨hK.weak ⟨rfl, rfl, rfl, rfl, rfl, rfl, rfl, rfl, rfl, trivial⟩, hE, by omega, trivial⟩
      · clear hK hE a; rintro k a w36 ⟨hK, hE, hf37, -⟩
        refine wp_seq ?_
        refine wp_region_lit ?_
        refine st_op (d := 59) (v' := .bool (decide (((k : Nat) : Int) < ((m13.length : Nat) : Int)))) (vs := []) (obs := []) hK rfl (fun _ => by kernel_rfl) trivial rfl rfl rfl ?_
        clear hK a; intro a hK
        refine wpList_nil ?_
        refine xt_norm ?_
        refine wp_seq ?_
        rcases Bool.eq_false_or_eq_true (decide (((k : Nat) : Int) < ((m13.length : Nat) : Int))) with hc38 | hc38
        · have hc38p := of_decide_eq_true hc38
          replace hK := hK.sub (d := 59) (v' := .bool true) rfl (congrArg Value.bool hc38)
          refine vc_cond (t := true) hK (fun _ => rfl) ?_
          rw [if_pos rfl]
          refine wp_skip ?_
          refine xt_norm ?_
          refine wp_seq ?_
          refine wp_block ?_
          refine wp_seq ?_
          refine wp_region_lit ?_
          obtain ⟨x39, hx40⟩ : ∃ x, m13[k]? = some x := ⟨_, List.getElem?_eq_getElem (by omega)⟩
          obtain ⟨b41, o42, hA44, hr43⟩ := row_open (f := TxV.cells) (m := 4) TxV.len (fun W hW => (TS.row ((hE.call hW).get 3 rfl))) (by decide) hx40
          replace hE := hE.dat (p := fun W => ∀ i x, m13[i]? = some x → Rec W b41 (o42 + i * 4) (TxV.cells x)) hr43
          clear hr43
          replace hE := hE.dat (p := fun W => Rec W b41 (o42 + k * 4) (TxV.cells x39)) (fun W hW => ((hE.call hW).get 0 rfl) _ _ hx40)
          replace hE := hE.dat (p := fun W => RS Wr.cells W x39.wa x39.t.writes) (fun W hW => (TxW.then_ ((TS.each (hE.get 5 rfl)) _ (List.mem_of_getElem? hx40)) hW).s)
          have hwl := (TS.each (hE.get 6 rfl) _ (List.mem_of_getElem? hx40))
          have hw1 := hwl.wl; have hw2 := hwl.wm; simp only [maxLen] at hw2; clear hwl
          refine st_ix (d := 60) (j := k) (m := 4) hK rfl rfl (fun _ => congrArg (fun A => Value.slice A m13.length c12) hA44) (fun _ => rfl) (by omega) (by have := (List.getElem?_eq_some_iff.1 hx40).1; omega) Try.underlying23 rfl rfl rfl rfl ?_
          clear hK a; intro a hK
          refine st_op (d := 61) (v' := .agg #[.int .i64 x39.t.id, .int .i64 x39.t.ts, .slice x39.ra x39.t.reads.length x39.rc, .slice x39.wa x39.t.writes.length x39.wc]) (vs := [.int .i64 x39.t.id, .int .i64 x39.t.ts, .slice x39.ra x39.t.reads.length x39.rc, .slice x39.wa x39.t.writes.length x39.wc]) (obs := [(⟨b41, o42 + k * 4, none⟩, .int .i64 x39.t.id), (⟨b41, o42 + k * 4 + 1, none⟩, .int .i64 x39.t.ts), (⟨b41, o42 + k * 4 + 2, none⟩, .slice x39.ra x39.t.reads.length x39.rc), (⟨b41, o42 + k * 4 + 3, none⟩, .slice x39.wa x39.t.writes.length x39.wc)]) hK rfl (fun _ => by kernel_rfl) ⟨(hE.get 1 rfl) 0 _ rfl, (hE.get 1 rfl) 1 _ rfl, (hE.get 1 rfl) 2 _ rfl, (hE.get 1 rfl) 3 _ rfl, trivial⟩ rfl rfl rfl ?_
          clear hK a; intro a hK
          refine st_new (d := 12) (v := fun g => .pointer (some ⟨g, 0, none⟩)) (cs := #[.int .i64 0, .int .i64 0, .slice none 0 0, .slice none 0 0]) (t := 29) hK hE rfl (fun _ _ => by kernel_rfl) rfl rfl ?_
          clear hK hE a; intro a g45 w46 _ _ hK hE
          refine st_store2 0 [(0, .int .i64 x39.t.id), (1, .int .i64 x39.t.ts), (2, .slice x39.ra x39.t.reads.length x39.rc), (3, .slice x39.wa x39.t.writes.length x39.wc)] hK hE rfl rfl (fun _ => by kernel_rfl) rfl rfl rfl ?_
          clear hE; intro w47 hs_ hk_ hE
          clear hs_ hk_
          refine wpList_nil ?_
          refine xt_norm ?_
          refine wp_region_lit ?_
          refine st_op (d := 62) (v' := .bool true) (vs := []) (obs := []) hK rfl (fun _ => by kernel_rfl) trivial rfl rfl rfl ?_
          clear hK a; intro a hK
          refine st_op (d := 63) (v' := .bool true) (vs := []) (obs := []) hK rfl (fun _ => by kernel_rfl) trivial rfl rfl rfl ?_
          clear hK a; intro a hK
          refine st_op (d := 64) (v' := .pointer (some ⟨g45, 1, none⟩)) (vs := []) (obs := []) hK rfl (fun _ => by kernel_rfl) trivial rfl rfl rfl ?_
          clear hK a; intro a hK
          refine st_op (d := 65) (v' := .int .i64 x39.t.ts) (vs := [.int .i64 x39.t.ts]) (obs := [(⟨g45, 1, none⟩, .int .i64 x39.t.ts)]) hK rfl (fun _ => by kernel_rfl) ⟨((hE.blk 0 rfl).cell 1).trans rfl, trivial⟩ rfl rfl rfl ?_
          clear hK a; intro a hK
          refine st_op (d := 66) (v' := .pointer (some ⟨g3, 0, none⟩)) (vs := []) (obs := []) hK rfl (fun _ => by kernel_rfl) trivial rfl rfl rfl ?_
          clear hK a; intro a hK
          refine st_op (d := 67) (v' := .int .i64 lo) (vs := [.int .i64 lo]) (obs := [(⟨g3, 0, none⟩, .int .i64 lo)]) hK rfl (fun _ => by kernel_rfl) ⟨((hE.blk 9 rfl).cell 0).trans rfl, trivial⟩ rfl rfl rfl ?_
          clear hK a; intro a hK
          refine st_op (d := 68) (v' := .bool (decide (x39.t.ts < lo))) (vs := []) (obs := []) hK rfl (fun _ => by kernel_rfl) trivial rfl rfl rfl ?_
          clear hK a; intro a hK
          refine st_op (d := 69) (v' := .bool (decide (x39.t.ts < lo))) (vs := []) (obs := []) hK rfl (fun _ => by kernel_rfl) trivial rfl rfl rfl ?_
          clear hK a; intro a hK
          refine st_op (d := 7) (v' := .bool (decide (x39.t.ts < lo))) (vs := []) (obs := []) hK rfl (fun _ => by kernel_rfl) trivial rfl rfl rfl ?_
          clear hK a; intro a hK
          refine wpList_nil ?_
          refine xb_norm ?_
          refine xt_norm ?_
          refine wp_region_lit ?_
          refine st_op (d := 70) (v' := .int .i64 (IntKind.i64.wrap (((k : Nat) : Int) + 1))) (v := .int .i64 (((k : Nat) : Int) + 1)) (vs := []) (obs := []) hK rfl (fun _ => by kernel_rfl) trivial (congrArg (Value.int .i64) (IntWalk.i64_in _ (by omega))) rfl rfl ?_
          clear hK a; intro a hK
          refine st_op (d := 58) (v' := .int .i64 (((k : Nat) : Int) + 1)) (vs := []) (obs := []) hK rfl (fun _ => by kernel_rfl) trivial rfl rfl rfl ?_
          clear hK a; intro a hK
          refine wpList_nil ?_
          refine xt_norm ?_
          replace hK := hK.sub (d := 58) (v' := .int .i64 (((k + 1) : Nat) : Int)) rfl (by first | rfl | (congr 1; omega))
          have hd48 : (decide (x39.t.ts < lo)) = true := decide_eq_true (shown_lt (hm10 ▸ txs_at hx40))
          replace hK := hK.sub (d := 7) (v' := .bool true) rfl (congrArg Value.bool hd48)
          refine ⟨k + 1, ⟨hK.weak ⟨rfl, rfl, rfl, rfl, rfl, rfl, rfl, rfl, rfl, trivial⟩, hE.drop (.cons _ (.cons _ (.cons _ (.cons _ (.cons_cons _ (.cons_cons _ (.cons_cons _ (.cons_cons _ (.cons_cons _ (.cons_cons _ (.cons_cons _ (.cons_cons _ (.cons_cons _ .slnil))))))))))))), by omega, trivial⟩, by omega⟩
        · have hc38p := of_decide_eq_false hc38
          replace hK := hK.sub (d := 59) (v' := .bool false) rfl (congrArg Value.bool hc38)
          refine vc_cond (t := false) hK (fun _ => rfl) ?_
          rw [if_neg (by simp)]
          refine wp_exit ?_
          refine xt_exit ?_
          refine xt_exit ?_
          refine xb_hit ?_
          refine xt_norm ?_
          refine wp_seq ?_
          refine wp_seq ?_
          refine wp_region_lit ?_
          refine st_op (d := 71) (v' := .pointer (some ⟨g15, 2, none⟩)) (vs := []) (obs := []) hK rfl (fun _ => by kernel_rfl) trivial rfl rfl rfl ?_
          clear hK a; intro a hK
          refine st_op (d := 72) (v' := .slice M10.oa M10.op.length M10.oc) (vs := [.slice M10.oa M10.op.length M10.oc]) (obs := [(⟨g15, 2, none⟩, .slice M10.oa M10.op.length M10.oc)]) hK rfl (fun _ => by kernel_rfl) ⟨((hE.blk 1 rfl).cell 2).trans rfl, trivial⟩ rfl rfl rfl ?_
          clear hK a; intro a hK
          refine st_op (d := 73) (v' := .int .i64 ((M10.op.length : Nat) : Int)) (vs := []) (obs := []) hK rfl (fun _ => by kernel_rfl) trivial rfl rfl rfl ?_
          clear hK a; intro a hK
          refine st_op (d := 74) (v' := .int .i64 0) (vs := []) (obs := []) hK rfl (fun _ => by kernel_rfl) trivial rfl rfl rfl ?_
          clear hK a; intro a hK
          refine wpList_nil ?_
          refine xt_norm ?_
          refine wp_block ?_
          refine vc_loop (γ := Nat) (fun k a w_ => Kn 173 [(2, .int .u8 which), (4, .pointer (some ⟨g3, 0, none⟩)), (6, .bool false), (8, .pointer (some ⟨g15, 0, none⟩)), (9, .slice A11 m13.length c12), (72, .slice M10.oa M10.op.length M10.oc), (73, .int .i64 ((M10.op.length : Nat) : Int)), (74, .int .i64 ((k : Nat) : Int)), (7, .bool true)] a ∧ Ev w w_ [.own 29 4 (.slice A28 (m13 ++ M10.op).length c29) ((m13 ++ M10.op).length) (((m13 ++ M10.op).flatMap TxV.cells)), .blk g15 25 #[.int .i64 M10.last, .slice M10.sa M10.st.length M10.sc, .slice M10.oa M10.op.length M10.oc], .dat (fun W => RS TxV.cells W M10.oa M10.op), .dat (fun W => TS W A11 m13), .dat (fun W => LdW W M10), .blk g3 31 #[.int .i64 lo, .int .i64 hi], .blk g1 25 #[.int .i64 L.last, .slice L.sa L.st.length L.sc, .slice L.oa L.op.length L.oc], .dat (fun W => RS TxV.cells W L.oa L.op), .dat (fun W => LdW W L)] ∧ (k ≤ M10.op.length) ∧ (True)) (fun k => M10.op.length - k) 0 ?_ ?_
          · replace hK := hK.sub (d := 74) (v' := .int .i64 ((0 : Nat) : Int)) rfl (by first | rfl | (congr 1; omega))
            replace hK := hK.sub (d := 7) (v' := .bool true) rfl (by first | rfl | (congr 1; omega))
            refine ⟨hK.weak ⟨rfl, rfl, rfl, rfl, rfl, rfl, rfl, rfl, rfl, trivial⟩, hE, by omega, trivial⟩
          · clear hK hE a; rintro k a w49 ⟨hK, hE, hf50, -⟩
            refine wp_seq ?_
            refine wp_region_lit ?_
            refine st_op (d := 75) (v' := .bool (decide (((k : Nat) : Int) < ((M10.op.length : Nat) : Int)))) (vs := []) (obs := []) hK rfl (fun _ => by kernel_rfl) trivial rfl rfl rfl ?_
            clear hK a; intro a hK
            refine wpList_nil ?_
            refine xt_norm ?_
            refine wp_seq ?_
            rcases Bool.eq_false_or_eq_true (decide (((k : Nat) : Int) < ((M10.op.length : Nat) : Int))) with hc51 | hc51
            · have hc51p := of_decide_eq_true hc51
              replace hK := hK.sub (d := 75) (v' := .bool true) rfl (congrArg Value.bool hc51)
              refine vc_cond (t := true) hK (fun _ => rfl) ?_
              rw [if_pos rfl]
              refine wp_skip ?_
              refine xt_norm ?_
              refine wp_seq ?_
              refine wp_block ?_
              refine wp_seq ?_
              refine wp_region_lit ?_
              obtain ⟨x52, hx53⟩ : ∃ x, M10.op[k]? = some x := ⟨_, List.getElem?_eq_getElem (by omega)⟩
              obtain ⟨b54, o55, hA57, hr56⟩ := row_open (f := TxV.cells) (m := 4) TxV.len (fun W hW => ((hE.call hW).get 2 rfl)) (by decide) hx53
              replace hE := hE.dat (p := fun W => ∀ i x, M10.op[i]? = some x → Rec W b54 (o55 + i * 4) (TxV.cells x)) hr56
              clear hr56
              replace hE := hE.dat (p := fun W => Rec W b54 (o55 + k * 4) (TxV.cells x52)) (fun W hW => ((hE.call hW).get 0 rfl) _ _ hx53)
              refine st_ix (d := 76) (j := k) (m := 4) hK rfl rfl (fun _ => congrArg (fun A => Value.slice A M10.op.length M10.oc) hA57) (fun _ => rfl) (by omega) (by have := (List.getElem?_eq_some_iff.1 hx53).1; omega) Try.underlying23 rfl rfl rfl rfl ?_
              clear hK a; intro a hK
              refine st_op (d := 77) (v' := .agg #[.int .i64 x52.t.id, .int .i64 x52.t.ts, .slice x52.ra x52.t.reads.length x52.rc, .slice x52.wa x52.t.writes.length x52.wc]) (vs := [.int .i64 x52.t.id, .int .i64 x52.t.ts, .slice x52.ra x52.t.reads.length x52.rc, .slice x52.wa x52.t.writes.length x52.wc]) (obs := [(⟨b54, o55 + k * 4, none⟩, .int .i64 x52.t.id), (⟨b54, o55 + k * 4 + 1, none⟩, .int .i64 x52.t.ts), (⟨b54, o55 + k * 4 + 2, none⟩, .slice x52.ra x52.t.reads.length x52.rc), (⟨b54, o55 + k * 4 + 3, none⟩, .slice x52.wa x52.t.writes.length x52.wc)]) hK rfl (fun _ => by kernel_rfl) ⟨(hE.get 0 rfl) 0 _ rfl, (hE.get 0 rfl) 1 _ rfl, (hE.get 0 rfl) 2 _ rfl, (hE.get 0 rfl) 3 _ rfl, trivial⟩ rfl rfl rfl ?_
              clear hK a; intro a hK
              refine st_new (d := 14) (v := fun g => .pointer (some ⟨g, 0, none⟩)) (cs := #[.int .i64 0, .int .i64 0, .slice none 0 0, .slice none 0 0]) (t := 29) hK hE rfl (fun _ _ => by kernel_rfl) rfl rfl ?_
              clear hK hE a; intro a g58 w59 _ _ hK hE
              refine st_store2 0 [(0, .int .i64 x52.t.id), (1, .int .i64 x52.t.ts), (2, .slice x52.ra x52.t.reads.length x52.rc), (3, .slice x52.wa x52.t.writes.length x52.wc)] hK hE rfl rfl (fun _ => by kernel_rfl) rfl rfl rfl ?_
              clear hE; intro w60 hs_ hk_ hE
              clear hs_ hk_
              refine wpList_nil ?_
              refine xt_norm ?_
              refine wp_region_lit ?_
              refine st_op (d := 78) (v' := .bool true) (vs := []) (obs := []) hK rfl (fun _ => by kernel_rfl) trivial rfl rfl rfl ?_
              clear hK a; intro a hK
              refine st_op (d := 79) (v' := .bool true) (vs := []) (obs := []) hK rfl (fun _ => by kernel_rfl) trivial rfl rfl rfl ?_
              clear hK a; intro a hK
              refine st_op (d := 80) (v' := .pointer (some ⟨g58, 1, none⟩)) (vs := []) (obs := []) hK rfl (fun _ => by kernel_rfl) trivial rfl rfl rfl ?_
              clear hK a; intro a hK
              refine st_op (d := 81) (v' := .int .i64 x52.t.ts) (vs := [.int .i64 x52.t.ts]) (obs := [(⟨g58, 1, none⟩, .int .i64 x52.t.ts)]) hK rfl (fun _ => by kernel_rfl) ⟨((hE.blk 0 rfl).cell 1).trans rfl, trivial⟩ rfl rfl rfl ?_
              clear hK a; intro a hK
              refine st_op (d := 82) (v' := .pointer (some ⟨g3, 0, none⟩)) (vs := []) (obs := []) hK rfl (fun _ => by kernel_rfl) trivial rfl rfl rfl ?_
              clear hK a; intro a hK
              refine st_op (d := 83) (v' := .int .i64 lo) (vs := [.int .i64 lo]) (obs := [(⟨g3, 0, none⟩, .int .i64 lo)]) hK rfl (fun _ => by kernel_rfl) ⟨((hE.blk 8 rfl).cell 0).trans rfl, trivial⟩ rfl rfl rfl ?_
              clear hK a; intro a hK
              refine st_op (d := 84) (v' := .bool (decide (x52.t.ts ≥ lo))) (vs := []) (obs := []) hK rfl (fun _ => by kernel_rfl) trivial rfl rfl rfl ?_
              clear hK a; intro a hK
              refine st_op (d := 85) (v' := .bool (decide (x52.t.ts ≥ lo))) (vs := []) (obs := []) hK rfl (fun _ => by kernel_rfl) trivial rfl rfl rfl ?_
              clear hK a; intro a hK
              refine st_op (d := 7) (v' := .bool (decide (x52.t.ts ≥ lo))) (vs := []) (obs := []) hK rfl (fun _ => by kernel_rfl) trivial rfl rfl rfl ?_
              clear hK a; intro a hK
              refine wpList_nil ?_
              refine xb_norm ?_
              refine xt_norm ?_
              refine wp_region_lit ?_
              refine st_op (d := 86) (v' := .int .i64 (IntKind.i64.wrap (((k : Nat) : Int) + 1))) (v := .int .i64 (((k : Nat) : Int) + 1)) (vs := []) (obs := []) hK rfl (fun _ => by kernel_rfl) trivial (congrArg (Value.int .i64) (IntWalk.i64_in _ (by omega))) rfl rfl ?_
              clear hK a; intro a hK
              refine st_op (d := 74) (v' := .int .i64 (((k : Nat) : Int) + 1)) (vs := []) (obs := []) hK rfl (fun _ => by kernel_rfl) trivial rfl rfl rfl ?_
              clear hK a; intro a hK
              refine wpList_nil ?_
              refine xt_norm ?_
              replace hK := hK.sub (d := 74) (v' := .int .i64 (((k + 1) : Nat) : Int)) rfl (by first | rfl | (congr 1; omega))
              have hd61 : (decide (x52.t.ts ≥ lo)) = true := decide_eq_true (open_ge (D := L.d) hok (hto ▸ txs_at hx53))
              replace hK := hK.sub (d := 7) (v' := .bool true) rfl (congrArg Value.bool hd61)
              refine ⟨k + 1, ⟨hK.weak ⟨rfl, rfl, rfl, rfl, rfl, rfl, rfl, rfl, rfl, trivial⟩, hE.drop (.cons _ (.cons _ (.cons _ (.cons_cons _ (.cons_cons _ (.cons_cons _ (.cons_cons _ (.cons_cons _ (.cons_cons _ (.cons_cons _ (.cons_cons _ (.cons_cons _ .slnil)))))))))))), by omega, trivial⟩, by omega⟩
            · have hc51p := of_decide_eq_false hc51
              replace hK := hK.sub (d := 75) (v' := .bool false) rfl (congrArg Value.bool hc51)
              refine vc_cond (t := false) hK (fun _ => rfl) ?_
              rw [if_neg (by simp)]
              refine wp_exit ?_
              refine xt_exit ?_
              refine xt_exit ?_
              refine xb_hit ?_
              refine xt_norm ?_
              refine wp_seq ?_
              refine wp_region_lit ?_
              refine st_op (d := 88) (v' := .agg #[.int .i64 M10.last, .slice M10.sa M10.st.length M10.sc, .slice M10.oa M10.op.length M10.oc]) (vs := [.int .i64 M10.last, .slice M10.sa M10.st.length M10.sc, .slice M10.oa M10.op.length M10.oc]) (obs := [(⟨g15, 0, none⟩, .int .i64 M10.last), (⟨g15, 1, none⟩, .slice M10.sa M10.st.length M10.sc), (⟨g15, 2, none⟩, .slice M10.oa M10.op.length M10.oc)]) hK rfl (fun _ => by kernel_rfl) ⟨((hE.blk 1 rfl).cell 0).trans rfl, ((hE.blk 1 rfl).cell 1).trans rfl, ((hE.blk 1 rfl).cell 2).trans rfl, trivial⟩ rfl rfl rfl ?_
              clear hK a; intro a hK
              refine st_op (d := 89) (v' := .agg #[.int .i64 lo, .int .i64 hi]) (vs := [.int .i64 lo, .int .i64 hi]) (obs := [(⟨g3, 0, none⟩, .int .i64 lo), (⟨g3, 1, none⟩, .int .i64 hi)]) hK rfl (fun _ => by kernel_rfl) ⟨((hE.blk 5 rfl).cell 0).trans rfl, ((hE.blk 5 rfl).cell 1).trans rfl, trivial⟩ rfl rfl rfl ?_
              clear hK a; intro a hK
              refine st_call (d := 90) (f := 25) (args := #[.agg #[.int .i64 M10.last, .slice M10.sa M10.st.length M10.sc, .slice M10.oa M10.op.length M10.oc], .agg #[.int .i64 lo, .int .i64 hi]]) hK rfl (fun _ => by kernel_rfl) rfl rfl (now_any M10 lo hi _ hLSM10 (hE.get 4 rfl)) ?_
              rintro e w62 ⟨rfl, hb⟩
              refine ⟨_, rfl, ?_⟩
              clear hK a; intro a hK
              replace hE := hE.call hb
              clear hb
              have hnow : nowL M10.d lo hi = (max hi 1, 0) := by unfold nowL; rw [hM10, (shown_law hsh).1, hiv]; rfl
              refine st_op (d := 87) (v' := .tuple #[.int .i64 (nowL M10.d lo hi).1, .int .i64 (nowL M10.d lo hi).2]) (vs := []) (obs := []) hK rfl (fun _ => by kernel_rfl) trivial rfl rfl rfl ?_
              clear hK a; intro a hK
              refine st_op (d := 91) (v' := .int .i64 (nowL M10.d lo hi).1) (vs := []) (obs := []) hK rfl (fun _ => by kernel_rfl) trivial rfl rfl rfl ?_
              clear hK a; intro a hK
              refine st_op (d := 92) (v' := .int .i64 (nowL M10.d lo hi).2) (vs := []) (obs := []) hK rfl (fun _ => by kernel_rfl) trivial rfl rfl rfl ?_
              clear hK a; intro a hK
              refine st_op (d := 15) (v' := .int .i64 (nowL M10.d lo hi).1) (vs := []) (obs := []) hK rfl (fun _ => by kernel_rfl) trivial rfl rfl rfl ?_
              clear hK a; intro a hK
              refine st_op (d := 16) (v' := .int .i64 (nowL M10.d lo hi).2) (vs := []) (obs := []) hK rfl (fun _ => by kernel_rfl) trivial rfl rfl rfl ?_
              clear hK a; intro a hK
              refine wpList_nil ?_
              refine xt_norm ?_
              refine wp_seq ?_
              refine wp_seq ?_
              refine wp_region_lit ?_
              refine st_op (d := 93) (v' := .int .i64 (nowL M10.d lo hi).2) (vs := []) (obs := []) hK rfl (fun _ => by kernel_rfl) trivial rfl rfl rfl ?_
              clear hK a; intro a hK
              refine st_op (d := 94) (v' := .bool ((nowL M10.d lo hi).2 != 0)) (v := .bool (!((nowL M10.d lo hi).2 == 0))) (vs := []) (obs := []) hK rfl (fun _ => by kernel_rfl) trivial rfl rfl rfl ?_
              clear hK a; intro a hK
              refine st_op (d := 95) (v' := .bool (!((nowL M10.d lo hi).2 == 0))) (vs := []) (obs := []) hK rfl (fun _ => by kernel_rfl) trivial rfl rfl rfl ?_
              clear hK a; intro a hK
              have hd63 : (((nowL M10.d lo hi).2 == 0)) = true := by rw [hnow]; rfl
              replace hK := hK.sub (d := 95) (v' := .bool false) rfl (congrArg (fun b => Value.bool !b) hd63)
              refine st_op (d := 96) (v' := .int .i64 (nowL M10.d lo hi).1) (vs := []) (obs := []) hK rfl (fun _ => by kernel_rfl) trivial rfl rfl rfl ?_
              clear hK a; intro a hK
              refine st_op (d := 97) (v' := .pointer (some ⟨g3, 1, none⟩)) (vs := []) (obs := []) hK rfl (fun _ => by kernel_rfl) trivial rfl rfl rfl ?_
              clear hK a; intro a hK
              refine st_op (d := 98) (v' := .int .i64 hi) (vs := [.int .i64 hi]) (obs := [(⟨g3, 1, none⟩, .int .i64 hi)]) hK rfl (fun _ => by kernel_rfl) ⟨((hE.blk 5 rfl).cell 1).trans rfl, trivial⟩ rfl rfl rfl ?_
              clear hK a; intro a hK
              refine st_op (d := 99) (v' := .bool (decide ((nowL M10.d lo hi).1 < hi))) (vs := []) (obs := []) hK rfl (fun _ => by kernel_rfl) trivial rfl rfl rfl ?_
              clear hK a; intro a hK
              refine st_op (d := 100) (v' := .bool (decide ((nowL M10.d lo hi).1 < hi))) (vs := []) (obs := []) hK rfl (fun _ => by kernel_rfl) trivial rfl rfl rfl ?_
              clear hK a; intro a hK
              refine st_op (d := 101) (v' := .bool (decide ((nowL M10.d lo hi).1 < hi))) (vs := []) (obs := []) hK rfl (fun _ => by kernel_rfl) trivial rfl rfl rfl ?_
              clear hK a; intro a hK
              have hd64 : (decide ((nowL M10.d lo hi).1 < hi)) = false := decide_eq_false (by rw [hnow]; show ¬ (max hi 1 < hi); omega)
              replace hK := hK.sub (d := 101) (v' := .bool false) rfl (congrArg Value.bool hd64)
              refine st_op (d := 102) (v' := .slice A11 m13.length c12) (vs := []) (obs := []) hK rfl (fun _ => by kernel_rfl) trivial rfl rfl rfl ?_
              clear hK a; intro a hK
              refine st_op (d := 103) (v' := .int .i64 ((m13.length : Nat) : Int)) (vs := []) (obs := []) hK rfl (fun _ => by kernel_rfl) trivial rfl rfl rfl ?_
              clear hK a; intro a hK
              refine st_op (d := 104) (v' := .bool (((m13.length : Nat) : Int) == 0)) (vs := []) (obs := []) hK rfl (fun _ => by kernel_rfl) trivial rfl rfl rfl ?_
              clear hK a; intro a hK
              refine st_op (d := 105) (v' := .bool (((m13.length : Nat) : Int) == 0)) (vs := []) (obs := []) hK rfl (fun _ => by kernel_rfl) trivial rfl rfl rfl ?_
              clear hK a; intro a hK
              refine wpList_nil ?_
              replace hK := hK.weak (K' := [(2, .int .u8 which), (4, .pointer (some ⟨g3, 0, none⟩)), (6, .bool false), (8, .pointer (some ⟨g15, 0, none⟩)), (9, .slice A11 m13.length c12), (7, .bool true), (15, .int .i64 (nowL M10.d lo hi).1), (16, .int .i64 (nowL M10.d lo hi).2), (105, .bool (((m13.length : Nat) : Int) == 0))]) ⟨rfl, rfl, rfl, rfl, rfl, rfl, rfl, rfl, rfl, trivial⟩
              refine xt_norm ?_
              rcases Bool.eq_false_or_eq_true ((((m13.length : Nat) : Int) == 0)) with hc65 | hc65
              · have hc65p := eq_of_beq hc65
                replace hK := hK.sub (d := 105) (v' := .bool true) rfl (congrArg Value.bool hc65)
                refine vc_cond (t := true) hK (fun _ => rfl) ?_
                rw [if_pos rfl]
                refine wp_seq ?_
                refine wp_region_lit ?_
                refine st_op (d := 106) (v' := .bool true) (vs := []) (obs := []) hK rfl (fun _ => by kernel_rfl) trivial rfl rfl rfl ?_
                clear hK a; intro a hK
                refine st_op (d := 107) (v' := .bool true) (vs := []) (obs := []) hK rfl (fun _ => by kernel_rfl) trivial rfl rfl rfl ?_
                clear hK a; intro a hK
                refine st_op (d := 108) (v' := .int .i64 (nowL M10.d lo hi).2) (vs := []) (obs := []) hK rfl (fun _ => by kernel_rfl) trivial rfl rfl rfl ?_
                clear hK a; intro a hK
                refine st_op (d := 109) (v' := .bool ((nowL M10.d lo hi).2 == 0)) (vs := []) (obs := []) hK rfl (fun _ => by kernel_rfl) trivial rfl rfl rfl ?_
                clear hK a; intro a hK
                refine st_op (d := 110) (v' := .bool ((nowL M10.d lo hi).2 == 0)) (vs := []) (obs := []) hK rfl (fun _ => by kernel_rfl) trivial rfl rfl rfl ?_
                clear hK a; intro a hK
                refine st_op (d := 111) (v' := .bool ((nowL M10.d lo hi).2 == 0)) (vs := []) (obs := []) hK rfl (fun _ => by kernel_rfl) trivial rfl rfl rfl ?_
                clear hK a; intro a hK
                replace hK := hK.sub (d := 111) (v' := .bool true) rfl (congrArg Value.bool hd63)
                refine st_op (d := 112) (v' := .int .i64 (nowL M10.d lo hi).1) (vs := []) (obs := []) hK rfl (fun _ => by kernel_rfl) trivial rfl rfl rfl ?_
                clear hK a; intro a hK
                refine st_op (d := 113) (v' := .pointer (some ⟨g3, 1, none⟩)) (vs := []) (obs := []) hK rfl (fun _ => by kernel_rfl) trivial rfl rfl rfl ?_
                clear hK a; intro a hK
                refine st_op (d := 114) (v' := .int .i64 hi) (vs := [.int .i64 hi]) (obs := [(⟨g3, 1, none⟩, .int .i64 hi)]) hK rfl (fun _ => by kernel_rfl) ⟨((hE.blk 5 rfl).cell 1).trans rfl, trivial⟩ rfl rfl rfl ?_
                clear hK a; intro a hK
                refine st_op (d := 115) (v' := .bool (decide ((nowL M10.d lo hi).1 ≥ hi))) (vs := []) (obs := []) hK rfl (fun _ => by kernel_rfl) trivial rfl rfl rfl ?_
                clear hK a; intro a hK
                refine st_op (d := 116) (v' := .bool (decide ((nowL M10.d lo hi).1 ≥ hi))) (vs := []) (obs := []) hK rfl (fun _ => by kernel_rfl) trivial rfl rfl rfl ?_
                clear hK a; intro a hK
                refine st_op (d := 6) (v' := .bool (decide ((nowL M10.d lo hi).1 ≥ hi))) (vs := []) (obs := []) hK rfl (fun _ => by kernel_rfl) trivial rfl rfl rfl ?_
                clear hK a; intro a hK
                refine wpList_nil ?_
                refine xt_norm ?_
                refine wp_ret ?_
                refine xt_ret ?_
                have hd66 : (decide ((nowL M10.d lo hi).1 ≥ hi)) = true := decide_eq_true (by rw [hnow]; show max hi 1 ≥ hi; omega)
                replace hK := hK.sub (d := 6) (v' := .bool true) rfl (congrArg Value.bool hd66)
                refine vc_ret (v' := .bool true) (vs := []) (obs := []) hK (fun _ => by kernel_rfl) trivial rfl ?_
                exact ⟨rfl, hE.b⟩
              · have hc65p := ne_of_beq_false hc65
                replace hK := hK.sub (d := 105) (v' := .bool false) rfl (congrArg Value.bool hc65)
                refine vc_cond (t := false) hK (fun _ => rfl) ?_
                rw [if_neg (by simp)]
                refine wp_skip ?_
                refine xt_norm ?_
                refine wp_seq ?_
                refine wp_region_lit ?_
                refine st_op (d := 117) (v' := .slice A11 m13.length c12) (vs := []) (obs := []) hK rfl (fun _ => by kernel_rfl) trivial rfl rfl rfl ?_
                clear hK a; intro a hK
                refine st_op (d := 118) (v' := .int .u8 which) (vs := []) (obs := []) hK rfl (fun _ => by kernel_rfl) trivial rfl rfl rfl ?_
                clear hK a; intro a hK
                refine st_op (d := 119) (v' := .int .i64 (IntKind.i64.wrap (which))) (v := .int .i64 which) (vs := []) (obs := []) hK rfl (fun _ => by kernel_rfl) trivial (congrArg (Value.int .i64) (IntWalk.i64_in _ (by omega))) rfl rfl ?_
                clear hK a; intro a hK
                refine st_op (d := 120) (v' := .slice A11 m13.length c12) (vs := []) (obs := []) hK rfl (fun _ => by kernel_rfl) trivial rfl rfl rfl ?_
                clear hK a; intro a hK
                refine st_op (d := 121) (v' := .int .i64 ((m13.length : Nat) : Int)) (vs := []) (obs := []) hK rfl (fun _ => by kernel_rfl) trivial rfl rfl rfl ?_
                clear hK a; intro a hK
                have hlen : 0 < m13.length := by rcases Nat.eq_zero_or_pos m13.length with e | e; exact absurd (by rw [e]; rfl) hc65p; exact e
                obtain ⟨j, hj, hjl⟩ : ∃ j : Nat, Int.tmod which ((m13.length : Nat) : Int) = ((j : Nat) : Int) ∧ j < m13.length := by
                  refine ⟨(Int.tmod which ((m13.length : Nat) : Int)).toNat, ?_, ?_⟩ <;> rw [Int.tmod_eq_emod_of_nonneg hw8.1]
                  · exact (Int.toNat_of_nonneg (Int.emod_nonneg _ (by omega))).symm
                  · have h1 := Int.emod_lt_of_pos which (show (0 : Int) < ((m13.length : Nat) : Int) by omega); have h2 := Int.emod_nonneg which (show ((m13.length : Nat) : Int) ≠ 0 by omega); omega
                refine st_run (d := 122) (v' := .int .i64 (Int.tmod which ((m13.length : Nat) : Int))) (v := .int .i64 ((j : Nat) : Int)) hK rfl (ex_int rfl (fun _ => rfl) (fun _ => rfl) (by kernel_rfl) (fun W => run_rem (by omega) W)) (congrArg (Value.int .i64) hj) rfl rfl ?_
                clear hK a; intro a hK
                obtain ⟨x67, hx68⟩ : ∃ x, m13[j]? = some x := ⟨_, List.getElem?_eq_getElem (by omega)⟩
                obtain ⟨b69, o70, hA72, hr71⟩ := row_open (f := TxV.cells) (m := 4) TxV.len (fun W hW => (TS.row ((hE.call hW).get 3 rfl))) (by decide) hx68
                replace hE := hE.dat (p := fun W => ∀ i x, m13[i]? = some x → Rec W b69 (o70 + i * 4) (TxV.cells x)) hr71
                clear hr71
                replace hE := hE.dat (p := fun W => Rec W b69 (o70 + j * 4) (TxV.cells x67)) (fun W hW => ((hE.call hW).get 0 rfl) _ _ hx68)
                replace hE := hE.dat (p := fun W => RS Wr.cells W x67.wa x67.t.writes) (fun W hW => (TxW.then_ ((TS.each (hE.get 5 rfl)) _ (List.mem_of_getElem? hx68)) hW).s)
                have hwl := (TS.each (hE.get 6 rfl) _ (List.mem_of_getElem? hx68))
                have hw1 := hwl.wl; have hw2 := hwl.wm; simp only [maxLen] at hw2; clear hwl
                refine st_ix (d := 123) (j := j) (m := 4) hK rfl rfl (fun _ => congrArg (fun A => Value.slice A m13.length c12) hA72) (fun _ => rfl) (by omega) (by have := (List.getElem?_eq_some_iff.1 hx68).1; omega) Try.underlying23 rfl rfl rfl rfl ?_
                clear hK a; intro a hK
                refine st_op (d := 124) (v' := .agg #[.int .i64 x67.t.id, .int .i64 x67.t.ts, .slice x67.ra x67.t.reads.length x67.rc, .slice x67.wa x67.t.writes.length x67.wc]) (vs := [.int .i64 x67.t.id, .int .i64 x67.t.ts, .slice x67.ra x67.t.reads.length x67.rc, .slice x67.wa x67.t.writes.length x67.wc]) (obs := [(⟨b69, o70 + j * 4, none⟩, .int .i64 x67.t.id), (⟨b69, o70 + j * 4 + 1, none⟩, .int .i64 x67.t.ts), (⟨b69, o70 + j * 4 + 2, none⟩, .slice x67.ra x67.t.reads.length x67.rc), (⟨b69, o70 + j * 4 + 3, none⟩, .slice x67.wa x67.t.writes.length x67.wc)]) hK rfl (fun _ => by kernel_rfl) ⟨(hE.get 1 rfl) 0 _ rfl, (hE.get 1 rfl) 1 _ rfl, (hE.get 1 rfl) 2 _ rfl, (hE.get 1 rfl) 3 _ rfl, trivial⟩ rfl rfl rfl ?_
                clear hK a; intro a hK
                refine st_new (d := 17) (v := fun g => .pointer (some ⟨g, 0, none⟩)) (cs := #[.int .i64 0, .int .i64 0, .slice none 0 0, .slice none 0 0]) (t := 29) hK hE rfl (fun _ _ => by kernel_rfl) rfl rfl ?_
                clear hK hE a; intro a g73 w74 _ _ hK hE
                refine st_store2 0 [(0, .int .i64 x67.t.id), (1, .int .i64 x67.t.ts), (2, .slice x67.ra x67.t.reads.length x67.rc), (3, .slice x67.wa x67.t.writes.length x67.wc)] hK hE rfl rfl (fun _ => by kernel_rfl) rfl rfl rfl ?_
                clear hE; intro w75 hs_ hk_ hE
                clear hs_ hk_
                refine wpList_nil ?_
                refine xt_norm ?_
                refine wp_seq ?_
                refine wp_seq ?_
                refine wp_region_lit ?_
                refine st_op (d := 125) (v' := .pointer (some ⟨g73, 3, none⟩)) (vs := []) (obs := []) hK rfl (fun _ => by kernel_rfl) trivial rfl rfl rfl ?_
                clear hK a; intro a hK
                refine st_op (d := 126) (v' := .slice x67.wa x67.t.writes.length x67.wc) (vs := [.slice x67.wa x67.t.writes.length x67.wc]) (obs := [(⟨g73, 3, none⟩, .slice x67.wa x67.t.writes.length x67.wc)]) hK rfl (fun _ => by kernel_rfl) ⟨((hE.blk 0 rfl).cell 3).trans rfl, trivial⟩ rfl rfl rfl ?_
                clear hK a; intro a hK
                refine st_op (d := 127) (v' := .int .i64 ((x67.t.writes.length : Nat) : Int)) (vs := []) (obs := []) hK rfl (fun _ => by kernel_rfl) trivial rfl rfl rfl ?_
                clear hK a; intro a hK
                refine st_op (d := 128) (v' := .int .i64 0) (vs := []) (obs := []) hK rfl (fun _ => by kernel_rfl) trivial rfl rfl rfl ?_
                clear hK a; intro a hK
                refine wpList_nil ?_
                refine xt_norm ?_
                refine wp_block ?_
                refine vc_loop (γ := Nat) (fun k a w_ => Kn 173 [(4, .pointer (some ⟨g3, 0, none⟩)), (6, .bool false), (8, .pointer (some ⟨g15, 0, none⟩)), (15, .int .i64 (nowL M10.d lo hi).1), (17, .pointer (some ⟨g73, 0, none⟩)), (126, .slice x67.wa x67.t.writes.length x67.wc), (127, .int .i64 ((x67.t.writes.length : Nat) : Int)), (128, .int .i64 ((k : Nat) : Int)), (7, .bool true)] a ∧ Ev w w_ [.blk g73 29 #[.int .i64 x67.t.id, .int .i64 x67.t.ts, .slice x67.ra x67.t.reads.length x67.rc, .slice x67.wa x67.t.writes.length x67.wc], .dat (fun W => RS Wr.cells W x67.wa x67.t.writes), .dat (fun W => Rec W b69 (o70 + j * 4) (TxV.cells x67)), .dat (fun W => ∀ i x, m13[i]? = some x → Rec W b69 (o70 + i * 4) (TxV.cells x)), .own 29 4 (.slice A28 (m13 ++ M10.op).length c29) ((m13 ++ M10.op).length) (((m13 ++ M10.op).flatMap TxV.cells)), .blk g15 25 #[.int .i64 M10.last, .slice M10.sa M10.st.length M10.sc, .slice M10.oa M10.op.length M10.oc], .dat (fun W => RS TxV.cells W M10.oa M10.op), .dat (fun W => TS W A11 m13), .dat (fun W => LdW W M10), .blk g3 31 #[.int .i64 lo, .int .i64 hi], .blk g1 25 #[.int .i64 L.last, .slice L.sa L.st.length L.sc, .slice L.oa L.op.length L.oc], .dat (fun W => RS TxV.cells W L.oa L.op), .dat (fun W => LdW W L)] ∧ (k ≤ x67.t.writes.length) ∧ (True)) (fun k => x67.t.writes.length - k) 0 ?_ ?_
                · replace hK := hK.sub (d := 128) (v' := .int .i64 ((0 : Nat) : Int)) rfl (by first | rfl | (congr 1; omega))
                  replace hK := hK.sub (d := 7) (v' := .bool true) rfl (by first | rfl | (congr 1; omega))
                  refine ⟨hK.weak ⟨rfl, rfl, rfl, rfl, rfl, rfl, rfl, rfl, rfl, trivial⟩, hE, by omega, trivial⟩
                · clear hK hE a; rintro k a w76 ⟨hK, hE, hf77, -⟩
                  refine wp_seq ?_
                  refine wp_region_lit ?_
                  refine st_op (d := 129) (v' := .bool (decide (((k : Nat) : Int) < ((x67.t.writes.length : Nat) : Int)))) (vs := []) (obs := []) hK rfl (fun _ => by kernel_rfl) trivial rfl rfl rfl ?_
                  clear hK a; intro a hK
                  refine wpList_nil ?_
                  refine xt_norm ?_
                  refine wp_seq ?_
                  rcases Bool.eq_false_or_eq_true (decide (((k : Nat) : Int) < ((x67.t.writes.length : Nat) : Int))) with hc78 | hc78
                  · have hc78p := of_decide_eq_true hc78
                    replace hK := hK.sub (d := 129) (v' := .bool true) rfl (congrArg Value.bool hc78)
                    refine vc_cond (t := true) hK (fun _ => rfl) ?_
                    rw [if_pos rfl]
                    refine wp_skip ?_
                    refine xt_norm ?_
                    refine wp_seq ?_
                    refine wp_block ?_
                    refine wp_seq ?_
                    refine wp_region_lit ?_
                    obtain ⟨x79, hx80⟩ : ∃ x, x67.t.writes[k]? = some x := ⟨_, List.getElem?_eq_getElem (by omega)⟩
                    obtain ⟨b81, o82, hA84, hr83⟩ := row_open (f := Wr.cells) (m := 3) (fun _ => rfl) (fun W hW => ((hE.call hW).get 1 rfl)) (by decide) hx80
                    replace hE := hE.dat (p := fun W => ∀ i x, x67.t.writes[i]? = some x → Rec W b81 (o82 + i * 3) (Wr.cells x)) hr83
                    clear hr83
                    replace hE := hE.dat (p := fun W => Rec W b81 (o82 + k * 3) (Wr.cells x79)) (fun W hW => ((hE.call hW).get 0 rfl) _ _ hx80)
                    refine st_ix (d := 130) (j := k) (m := 3) hK rfl rfl (fun _ => congrArg (fun A => Value.slice A x67.t.writes.length x67.wc) hA84) (fun _ => rfl) (by omega) (by have := (List.getElem?_eq_some_iff.1 hx80).1; omega) Try.underlying27 rfl rfl rfl rfl ?_
                    clear hK a; intro a hK
                    refine st_op (d := 131) (v' := .agg #[.int .i64 x79.key, .int .i64 x79.value, .bool x79.gone]) (vs := [.int .i64 x79.key, .int .i64 x79.value, .bool x79.gone]) (obs := [(⟨b81, o82 + k * 3, none⟩, .int .i64 x79.key), (⟨b81, o82 + k * 3 + 1, none⟩, .int .i64 x79.value), (⟨b81, o82 + k * 3 + 2, none⟩, .bool x79.gone)]) hK rfl (fun _ => by kernel_rfl) ⟨(hE.get 0 rfl) 0 _ rfl, (hE.get 0 rfl) 1 _ rfl, (hE.get 0 rfl) 2 _ rfl, trivial⟩ rfl rfl rfl ?_
                    clear hK a; intro a hK
                    refine st_new (d := 19) (v := fun g => .pointer (some ⟨g, 0, none⟩)) (cs := #[.int .i64 0, .int .i64 0, .bool false]) (t := 60) hK hE rfl (fun _ _ => by kernel_rfl) rfl rfl ?_
                    clear hK hE a; intro a g85 w86 _ _ hK hE
                    refine st_store2 0 [(0, .int .i64 x79.key), (1, .int .i64 x79.value), (2, .bool x79.gone)] hK hE rfl rfl (fun _ => by kernel_rfl) rfl rfl rfl ?_
                    clear hE; intro w87 hs_ hk_ hE
                    clear hs_ hk_
                    refine wpList_nil ?_
                    refine xt_norm ?_
                    refine wp_seq ?_
                    refine wp_region_lit ?_
                    refine st_op (d := 133) (v' := .agg #[.int .i64 M10.last, .slice M10.sa M10.st.length M10.sc, .slice M10.oa M10.op.length M10.oc]) (vs := [.int .i64 M10.last, .slice M10.sa M10.st.length M10.sc, .slice M10.oa M10.op.length M10.oc]) (obs := [(⟨g15, 0, none⟩, .int .i64 M10.last), (⟨g15, 1, none⟩, .slice M10.sa M10.st.length M10.sc), (⟨g15, 2, none⟩, .slice M10.oa M10.op.length M10.oc)]) hK rfl (fun _ => by kernel_rfl) ⟨((hE.blk 8 rfl).cell 0).trans rfl, ((hE.blk 8 rfl).cell 1).trans rfl, ((hE.blk 8 rfl).cell 2).trans rfl, trivial⟩ rfl rfl rfl ?_
                    clear hK a; intro a hK
                    refine st_op (d := 134) (v' := .pointer (some ⟨g85, 0, none⟩)) (vs := []) (obs := []) hK rfl (fun _ => by kernel_rfl) trivial rfl rfl rfl ?_
                    clear hK a; intro a hK
                    refine st_op (d := 135) (v' := .int .i64 x79.key) (vs := [.int .i64 x79.key]) (obs := [(⟨g85, 0, none⟩, .int .i64 x79.key)]) hK rfl (fun _ => by kernel_rfl) ⟨((hE.blk 0 rfl).cell 0).trans rfl, trivial⟩ rfl rfl rfl ?_
                    clear hK a; intro a hK
                    refine st_op (d := 136) (v' := .int .i64 (nowL M10.d lo hi).1) (vs := []) (obs := []) hK rfl (fun _ => by kernel_rfl) trivial rfl rfl rfl ?_
                    clear hK a; intro a hK
                    refine st_op (d := 137) (v' := .agg #[.int .i64 lo, .int .i64 hi]) (vs := [.int .i64 lo, .int .i64 hi]) (obs := [(⟨g3, 0, none⟩, .int .i64 lo), (⟨g3, 1, none⟩, .int .i64 hi)]) hK rfl (fun _ => by kernel_rfl) ⟨((hE.blk 12 rfl).cell 0).trans rfl, ((hE.blk 12 rfl).cell 1).trans rfl, trivial⟩ rfl rfl rfl ?_
                    clear hK a; intro a hK
                    refine st_call (d := 138) (f := 23) (args := #[.agg #[.int .i64 M10.last, .slice M10.sa M10.st.length M10.sc, .slice M10.oa M10.op.length M10.oc], .int .i64 x79.key, .int .i64 (nowL M10.d lo hi).1, .agg #[.int .i64 lo, .int .i64 hi]]) hK rfl (fun _ => by kernel_rfl) rfl rfl (readL_any M10 x79.key (nowL M10.d lo hi).1 lo hi _ hLSM10 (hE.get 11 rfl)) ?_
                    rintro e w88 ⟨rfl, hb⟩
                    refine ⟨_, rfl, ?_⟩
                    clear hK a; intro a hK
                    replace hE := hE.call hb
                    clear hb
                    refine st_op (d := 132) (v' := .tuple #[.agg #[.int .i64 (readLL M10.d x79.key (nowL M10.d lo hi).1 lo hi).1.key, .int .i64 (readLL M10.d x79.key (nowL M10.d lo hi).1 lo hi).1.ts, .int .i64 (readLL M10.d x79.key (nowL M10.d lo hi).1 lo hi).1.value, .bool (readLL M10.d x79.key (nowL M10.d lo hi).1 lo hi).1.gone], .bool (readLL M10.d x79.key (nowL M10.d lo hi).1 lo hi).2.1, .int .i64 (readLL M10.d x79.key (nowL M10.d lo hi).1 lo hi).2.2]) (vs := []) (obs := []) hK rfl (fun _ => by kernel_rfl) trivial rfl rfl rfl ?_
                    clear hK a; intro a hK
                    refine st_op (d := 139) (v' := .agg #[.int .i64 (readLL M10.d x79.key (nowL M10.d lo hi).1 lo hi).1.key, .int .i64 (readLL M10.d x79.key (nowL M10.d lo hi).1 lo hi).1.ts, .int .i64 (readLL M10.d x79.key (nowL M10.d lo hi).1 lo hi).1.value, .bool (readLL M10.d x79.key (nowL M10.d lo hi).1 lo hi).1.gone]) (vs := []) (obs := []) hK rfl (fun _ => by kernel_rfl) trivial rfl rfl rfl ?_
                    clear hK a; intro a hK
                    refine st_op (d := 140) (v' := .bool (readLL M10.d x79.key (nowL M10.d lo hi).1 lo hi).2.1) (vs := []) (obs := []) hK rfl (fun _ => by kernel_rfl) trivial rfl rfl rfl ?_
                    clear hK a; intro a hK
                    refine st_op (d := 141) (v' := .int .i64 (readLL M10.d x79.key (nowL M10.d lo hi).1 lo hi).2.2) (vs := []) (obs := []) hK rfl (fun _ => by kernel_rfl) trivial rfl rfl rfl ?_
                    clear hK a; intro a hK
                    refine st_new (d := 20) (v := fun g => .pointer (some ⟨g, 0, none⟩)) (cs := #[.int .i64 0, .int .i64 0, .int .i64 0, .bool false]) (t := 44) hK hE rfl (fun _ _ => by kernel_rfl) rfl rfl ?_
                    clear hK hE a; intro a g89 w90 _ _ hK hE
                    refine st_store2 0 [(0, .int .i64 (readLL M10.d x79.key (nowL M10.d lo hi).1 lo hi).1.key), (1, .int .i64 (readLL M10.d x79.key (nowL M10.d lo hi).1 lo hi).1.ts), (2, .int .i64 (readLL M10.d x79.key (nowL M10.d lo hi).1 lo hi).1.value), (3, .bool (readLL M10.d x79.key (nowL M10.d lo hi).1 lo hi).1.gone)] hK hE rfl rfl (fun _ => by kernel_rfl) rfl rfl rfl ?_
                    clear hE; intro w91 hs_ hk_ hE
                    clear hs_ hk_
                    refine st_op (d := 21) (v' := .bool (readLL M10.d x79.key (nowL M10.d lo hi).1 lo hi).2.1) (vs := []) (obs := []) hK rfl (fun _ => by kernel_rfl) trivial rfl rfl rfl ?_
                    clear hK a; intro a hK
                    refine st_op (d := 22) (v' := .int .i64 (readLL M10.d x79.key (nowL M10.d lo hi).1 lo hi).2.2) (vs := []) (obs := []) hK rfl (fun _ => by kernel_rfl) trivial rfl rfl rfl ?_
                    clear hK a; intro a hK
                    refine wpList_nil ?_
                    refine xt_norm ?_
                    refine wp_seq ?_
                    refine wp_region_lit ?_
                    refine st_op (d := 143) (v' := .pointer (some ⟨g15, 1, none⟩)) (vs := []) (obs := []) hK rfl (fun _ => by kernel_rfl) trivial rfl rfl rfl ?_
                    clear hK a; intro a hK
                    refine st_op (d := 144) (v' := .slice M10.sa M10.st.length M10.sc) (vs := [.slice M10.sa M10.st.length M10.sc]) (obs := [(⟨g15, 1, none⟩, .slice M10.sa M10.st.length M10.sc)]) hK rfl (fun _ => by kernel_rfl) ⟨((hE.blk 9 rfl).cell 1).trans rfl, trivial⟩ rfl rfl rfl ?_
                    clear hK a; intro a hK
                    refine st_op (d := 145) (v' := .pointer (some ⟨g85, 0, none⟩)) (vs := []) (obs := []) hK rfl (fun _ => by kernel_rfl) trivial rfl rfl rfl ?_
                    clear hK a; intro a hK
                    refine st_op (d := 146) (v' := .int .i64 x79.key) (vs := [.int .i64 x79.key]) (obs := [(⟨g85, 0, none⟩, .int .i64 x79.key)]) hK rfl (fun _ => by kernel_rfl) ⟨((hE.blk 1 rfl).cell 0).trans rfl, trivial⟩ rfl rfl rfl ?_
                    clear hK a; intro a hK
                    refine st_call (d := 147) (f := 32) (args := #[.slice M10.sa M10.st.length M10.sc, .int .i64 x79.key]) hK rfl (fun _ => by kernel_rfl) rfl rfl (rNewest_any M10.sa M10.sc M10.st x79.key _ (by have := hLSM10.st; omega) (LdW.s (hE.get 12 rfl))) ?_
                    rintro e w92 ⟨rfl, hb⟩
                    refine ⟨_, rfl, ?_⟩
                    clear hK a; intro a hK
                    replace hE := hE.call hb
                    clear hb
                    refine st_op (d := 142) (v' := .tuple #[.int .i64 (newestRS M10.st x79.key).1, .int .i64 (newestRS M10.st x79.key).2]) (vs := []) (obs := []) hK rfl (fun _ => by kernel_rfl) trivial rfl rfl rfl ?_
                    clear hK a; intro a hK
                    refine st_op (d := 148) (v' := .int .i64 (newestRS M10.st x79.key).1) (vs := []) (obs := []) hK rfl (fun _ => by kernel_rfl) trivial rfl rfl rfl ?_
                    clear hK a; intro a hK
                    refine st_op (d := 149) (v' := .int .i64 (newestRS M10.st x79.key).2) (vs := []) (obs := []) hK rfl (fun _ => by kernel_rfl) trivial rfl rfl rfl ?_
                    clear hK a; intro a hK
                    refine st_op (d := 23) (v' := .int .i64 (newestRS M10.st x79.key).1) (vs := []) (obs := []) hK rfl (fun _ => by kernel_rfl) trivial rfl rfl rfl ?_
                    clear hK a; intro a hK
                    refine st_op (d := 24) (v' := .int .i64 (newestRS M10.st x79.key).2) (vs := []) (obs := []) hK rfl (fun _ => by kernel_rfl) trivial rfl rfl rfl ?_
                    clear hK a; intro a hK
                    refine wpList_nil ?_
                    replace hK := hK.weak (K' := [(4, .pointer (some ⟨g3, 0, none⟩)), (6, .bool false), (8, .pointer (some ⟨g15, 0, none⟩)), (15, .int .i64 (nowL M10.d lo hi).1), (17, .pointer (some ⟨g73, 0, none⟩)), (126, .slice x67.wa x67.t.writes.length x67.wc), (127, .int .i64 ((x67.t.writes.length : Nat) : Int)), (128, .int .i64 ((k : Nat) : Int)), (7, .bool true), (129, .bool true), (130, .pointer (some ⟨b81, o82 + k * 3, none⟩)), (131, .agg #[.int .i64 x79.key, .int .i64 x79.value, .bool x79.gone]), (19, .pointer (some ⟨g85, 0, none⟩)), (133, .agg #[.int .i64 M10.last, .slice M10.sa M10.st.length M10.sc, .slice M10.oa M10.op.length M10.oc]), (134, .pointer (some ⟨g85, 0, none⟩)), (135, .int .i64 x79.key), (136, .int .i64 (nowL M10.d lo hi).1), (137, .agg #[.int .i64 lo, .int .i64 hi]), (138, .tuple #[.agg #[.int .i64 (readLL M10.d x79.key (nowL M10.d lo hi).1 lo hi).1.key, .int .i64 (readLL M10.d x79.key (nowL M10.d lo hi).1 lo hi).1.ts, .int .i64 (readLL M10.d x79.key (nowL M10.d lo hi).1 lo hi).1.value, .bool (readLL M10.d x79.key (nowL M10.d lo hi).1 lo hi).1.gone], .bool (readLL M10.d x79.key (nowL M10.d lo hi).1 lo hi).2.1, .int .i64 (readLL M10.d x79.key (nowL M10.d lo hi).1 lo hi).2.2]), (132, .tuple #[.agg #[.int .i64 (readLL M10.d x79.key (nowL M10.d lo hi).1 lo hi).1.key, .int .i64 (readLL M10.d x79.key (nowL M10.d lo hi).1 lo hi).1.ts, .int .i64 (readLL M10.d x79.key (nowL M10.d lo hi).1 lo hi).1.value, .bool (readLL M10.d x79.key (nowL M10.d lo hi).1 lo hi).1.gone], .bool (readLL M10.d x79.key (nowL M10.d lo hi).1 lo hi).2.1, .int .i64 (readLL M10.d x79.key (nowL M10.d lo hi).1 lo hi).2.2]), (139, .agg #[.int .i64 (readLL M10.d x79.key (nowL M10.d lo hi).1 lo hi).1.key, .int .i64 (readLL M10.d x79.key (nowL M10.d lo hi).1 lo hi).1.ts, .int .i64 (readLL M10.d x79.key (nowL M10.d lo hi).1 lo hi).1.value, .bool (readLL M10.d x79.key (nowL M10.d lo hi).1 lo hi).1.gone]), (140, .bool (readLL M10.d x79.key (nowL M10.d lo hi).1 lo hi).2.1), (141, .int .i64 (readLL M10.d x79.key (nowL M10.d lo hi).1 lo hi).2.2), (20, .pointer (some ⟨g89, 0, none⟩)), (21, .bool (readLL M10.d x79.key (nowL M10.d lo hi).1 lo hi).2.1), (22, .int .i64 (readLL M10.d x79.key (nowL M10.d lo hi).1 lo hi).2.2), (143, .pointer (some ⟨g15, 1, none⟩)), (144, .slice M10.sa M10.st.length M10.sc), (145, .pointer (some ⟨g85, 0, none⟩)), (146, .int .i64 x79.key), (147, .tuple #[.int .i64 (newestRS M10.st x79.key).1, .int .i64 (newestRS M10.st x79.key).2]), (142, .tuple #[.int .i64 (newestRS M10.st x79.key).1, .int .i64 (newestRS M10.st x79.key).2]), (148, .int .i64 (newestRS M10.st x79.key).1), (149, .int .i64 (newestRS M10.st x79.key).2), (23, .int .i64 (newestRS M10.st x79.key).1)]) ⟨rfl, rfl, rfl, rfl, rfl, rfl, rfl, rfl, rfl, rfl, rfl, rfl, rfl, rfl, rfl, rfl, rfl, rfl, rfl, rfl, rfl, rfl, rfl, rfl, rfl, rfl, rfl, rfl, rfl, rfl, rfl, rfl, rfl, rfl, rfl, trivial⟩
                    refine xt_norm ?_
                    refine wp_region_lit ?_
                    refine st_op (d := 150) (v' := .bool true) (vs := []) (obs := []) hK rfl (fun _ => by kernel_rfl) trivial rfl rfl rfl ?_
                    clear hK a; intro a hK
                    refine st_op (d := 151) (v' := .bool true) (vs := []) (obs := []) hK rfl (fun _ => by kernel_rfl) trivial rfl rfl rfl ?_
                    clear hK a; intro a hK
                    refine st_op (d := 152) (v' := .int .i64 (readLL M10.d x79.key (nowL M10.d lo hi).1 lo hi).2.2) (vs := []) (obs := []) hK rfl (fun _ => by kernel_rfl) trivial rfl rfl rfl ?_
                    clear hK a; intro a hK
                    refine st_op (d := 153) (v' := .bool ((readLL M10.d x79.key (nowL M10.d lo hi).1 lo hi).2.2 != 0)) (v := .bool (!((readLL M10.d x79.key (nowL M10.d lo hi).1 lo hi).2.2 == 0))) (vs := []) (obs := []) hK rfl (fun _ => by kernel_rfl) trivial rfl rfl rfl ?_
                    clear hK a; intro a hK
                    refine st_op (d := 154) (v' := .bool (!((readLL M10.d x79.key (nowL M10.d lo hi).1 lo hi).2.2 == 0))) (vs := []) (obs := []) hK rfl (fun _ => by kernel_rfl) trivial rfl rfl rfl ?_
                    clear hK a; intro a hK
                    rcases Bool.eq_false_or_eq_true (((readLL M10.d x79.key (nowL M10.d lo hi).1 lo hi).2.2 == 0)) with hc93 | hc93
                    · have hc93p := eq_of_beq hc93
                      replace hK := hK.sub (d := 154) (v' := .bool false) rfl (congrArg (fun b => Value.bool !b) hc93)
                      refine st_op (d := 155) (v' := .bool (readLL M10.d x79.key (nowL M10.d lo hi).1 lo hi).2.1) (vs := []) (obs := []) hK rfl (fun _ => by kernel_rfl) trivial rfl rfl rfl ?_
                      clear hK a; intro a hK
                      refine st_op (d := 156) (v' := .bool (!(readLL M10.d x79.key (nowL M10.d lo hi).1 lo hi).2.1)) (vs := []) (obs := []) hK rfl (fun _ => by kernel_rfl) trivial rfl rfl rfl ?_
                      clear hK a; intro a hK
                      refine st_op (d := 157) (v' := .bool (!(readLL M10.d x79.key (nowL M10.d lo hi).1 lo hi).2.1)) (vs := []) (obs := []) hK rfl (fun _ => by kernel_rfl) trivial rfl rfl rfl ?_
                      clear hK a; intro a hK
                      refine st_op (d := 158) (v' := .bool (!(readLL M10.d x79.key (nowL M10.d lo hi).1 lo hi).2.1)) (vs := []) (obs := []) hK rfl (fun _ => by kernel_rfl) trivial rfl rfl rfl ?_
                      clear hK a; intro a hK
                      rcases Bool.eq_false_or_eq_true ((readLL M10.d x79.key (nowL M10.d lo hi).1 lo hi).2.1) with hc94 | hc94
                      · replace hK := hK.sub (d := 158) (v' := .bool false) rfl (congrArg (fun b => Value.bool !b) hc94)
                        refine st_op (d := 159) (v' := .pointer (some ⟨g89, 1, none⟩)) (vs := []) (obs := []) hK rfl (fun _ => by kernel_rfl) trivial rfl rfl rfl ?_
                        clear hK a; intro a hK
                        refine st_op (d := 160) (v' := .int .i64 (readLL M10.d x79.key (nowL M10.d lo hi).1 lo hi).1.ts) (vs := [.int .i64 (readLL M10.d x79.key (nowL M10.d lo hi).1 lo hi).1.ts]) (obs := [(⟨g89, 1, none⟩, .int .i64 (readLL M10.d x79.key (nowL M10.d lo hi).1 lo hi).1.ts)]) hK rfl (fun _ => by kernel_rfl) ⟨((hE.blk 0 rfl).cell 1).trans rfl, trivial⟩ rfl rfl rfl ?_
                        clear hK a; intro a hK
                        refine st_op (d := 161) (v' := .int .i64 (newestRS M10.st x79.key).1) (vs := []) (obs := []) hK rfl (fun _ => by kernel_rfl) trivial rfl rfl rfl ?_
                        clear hK a; intro a hK
                        refine st_op (d := 162) (v' := .bool ((readLL M10.d x79.key (nowL M10.d lo hi).1 lo hi).1.ts == (newestRS M10.st x79.key).1)) (vs := []) (obs := []) hK rfl (fun _ => by kernel_rfl) trivial rfl rfl rfl ?_
                        clear hK a; intro a hK
                        refine st_op (d := 163) (v' := .bool ((readLL M10.d x79.key (nowL M10.d lo hi).1 lo hi).1.ts == (newestRS M10.st x79.key).1)) (vs := []) (obs := []) hK rfl (fun _ => by kernel_rfl) trivial rfl rfl rfl ?_
                        clear hK a; intro a hK
                        have hd95 : (((readLL M10.d x79.key (nowL M10.d lo hi).1 lo hi).1.ts == (newestRS M10.st x79.key).1)) = true := beq_iff_eq.2 (by have hw := waits_law (D := L.d) hok hiv (hm10 ▸ txs_at hx68) hx80 (by have h := hc93p; rw [hnow, hM10] at h; exact h) (by have h := hc94; rw [hnow, hM10] at h; exact h); rw [hnow, hM10, show M10.st = (showS L.d lo hi).1.st by rw [← hM10]; rfl]; exact hw.1)
                        replace hK := hK.sub (d := 163) (v' := .bool true) rfl (congrArg Value.bool hd95)
                        refine st_op (d := 164) (v' := .int .i64 (newestRS M10.st x79.key).1) (vs := []) (obs := []) hK rfl (fun _ => by kernel_rfl) trivial rfl rfl rfl ?_
                        clear hK a; intro a hK
                        refine st_op (d := 165) (v' := .pointer (some ⟨g73, 1, none⟩)) (vs := []) (obs := []) hK rfl (fun _ => by kernel_rfl) trivial rfl rfl rfl ?_
                        clear hK a; intro a hK
                        refine st_op (d := 166) (v' := .int .i64 x67.t.ts) (vs := [.int .i64 x67.t.ts]) (obs := [(⟨g73, 1, none⟩, .int .i64 x67.t.ts)]) hK rfl (fun _ => by kernel_rfl) ⟨((hE.blk 4 rfl).cell 1).trans rfl, trivial⟩ rfl rfl rfl ?_
                        clear hK a; intro a hK
                        refine st_op (d := 167) (v' := .bool (decide ((newestRS M10.st x79.key).1 ≥ x67.t.ts))) (vs := []) (obs := []) hK rfl (fun _ => by kernel_rfl) trivial rfl rfl rfl ?_
                        clear hK a; intro a hK
                        refine st_op (d := 168) (v' := .bool (decide ((newestRS M10.st x79.key).1 ≥ x67.t.ts))) (vs := []) (obs := []) hK rfl (fun _ => by kernel_rfl) trivial rfl rfl rfl ?_
                        clear hK a; intro a hK
                        refine st_op (d := 169) (v' := .bool (decide ((newestRS M10.st x79.key).1 ≥ x67.t.ts))) (vs := []) (obs := []) hK rfl (fun _ => by kernel_rfl) trivial rfl rfl rfl ?_
                        clear hK a; intro a hK
                        refine st_op (d := 170) (v' := .bool (decide ((newestRS M10.st x79.key).1 ≥ x67.t.ts))) (vs := []) (obs := []) hK rfl (fun _ => by kernel_rfl) trivial rfl rfl rfl ?_
                        clear hK a; intro a hK
                        refine st_op (d := 7) (v' := .bool (decide ((newestRS M10.st x79.key).1 ≥ x67.t.ts))) (vs := []) (obs := []) hK rfl (fun _ => by kernel_rfl) trivial rfl rfl rfl ?_
                        clear hK a; intro a hK
                        refine wpList_nil ?_
                        replace hK := hK.weak (K' := [(4, .pointer (some ⟨g3, 0, none⟩)), (6, .bool false), (8, .pointer (some ⟨g15, 0, none⟩)), (15, .int .i64 (nowL M10.d lo hi).1), (17, .pointer (some ⟨g73, 0, none⟩)), (126, .slice x67.wa x67.t.writes.length x67.wc), (127, .int .i64 ((x67.t.writes.length : Nat) : Int)), (128, .int .i64 ((k : Nat) : Int)), (7, .bool (decide ((newestRS M10.st x79.key).1 ≥ x67.t.ts))), (129, .bool true), (130, .pointer (some ⟨b81, o82 + k * 3, none⟩)), (131, .agg #[.int .i64 x79.key, .int .i64 x79.value, .bool x79.gone]), (19, .pointer (some ⟨g85, 0, none⟩)), (133, .agg #[.int .i64 M10.last, .slice M10.sa M10.st.length M10.sc, .slice M10.oa M10.op.length M10.oc]), (134, .pointer (some ⟨g85, 0, none⟩)), (135, .int .i64 x79.key), (136, .int .i64 (nowL M10.d lo hi).1), (137, .agg #[.int .i64 lo, .int .i64 hi]), (138, .tuple #[.agg #[.int .i64 (readLL M10.d x79.key (nowL M10.d lo hi).1 lo hi).1.key, .int .i64 (readLL M10.d x79.key (nowL M10.d lo hi).1 lo hi).1.ts, .int .i64 (readLL M10.d x79.key (nowL M10.d lo hi).1 lo hi).1.value, .bool (readLL M10.d x79.key (nowL M10.d lo hi).1 lo hi).1.gone], .bool (readLL M10.d x79.key (nowL M10.d lo hi).1 lo hi).2.1, .int .i64 (readLL M10.d x79.key (nowL M10.d lo hi).1 lo hi).2.2]), (132, .tuple #[.agg #[.int .i64 (readLL M10.d x79.key (nowL M10.d lo hi).1 lo hi).1.key, .int .i64 (readLL M10.d x79.key (nowL M10.d lo hi).1 lo hi).1.ts, .int .i64 (readLL M10.d x79.key (nowL M10.d lo hi).1 lo hi).1.value, .bool (readLL M10.d x79.key (nowL M10.d lo hi).1 lo hi).1.gone], .bool (readLL M10.d x79.key (nowL M10.d lo hi).1 lo hi).2.1, .int .i64 (readLL M10.d x79.key (nowL M10.d lo hi).1 lo hi).2.2]), (139, .agg #[.int .i64 (readLL M10.d x79.key (nowL M10.d lo hi).1 lo hi).1.key, .int .i64 (readLL M10.d x79.key (nowL M10.d lo hi).1 lo hi).1.ts, .int .i64 (readLL M10.d x79.key (nowL M10.d lo hi).1 lo hi).1.value, .bool (readLL M10.d x79.key (nowL M10.d lo hi).1 lo hi).1.gone]), (140, .bool (readLL M10.d x79.key (nowL M10.d lo hi).1 lo hi).2.1), (141, .int .i64 (readLL M10.d x79.key (nowL M10.d lo hi).1 lo hi).2.2), (20, .pointer (some ⟨g89, 0, none⟩)), (21, .bool (readLL M10.d x79.key (nowL M10.d lo hi).1 lo hi).2.1), (22, .int .i64 (readLL M10.d x79.key (nowL M10.d lo hi).1 lo hi).2.2), (143, .pointer (some ⟨g15, 1, none⟩)), (144, .slice M10.sa M10.st.length M10.sc), (145, .pointer (some ⟨g85, 0, none⟩)), (146, .int .i64 x79.key), (147, .tuple #[.int .i64 (newestRS M10.st x79.key).1, .int .i64 (newestRS M10.st x79.key).2]), (142, .tuple #[.int .i64 (newestRS M10.st x79.key).1, .int .i64 (newestRS M10.st x79.key).2]), (148, .int .i64 (newestRS M10.st x79.key).1), (149, .int .i64 (newestRS M10.st x79.key).2), (23, .int .i64 (newestRS M10.st x79.key).1), (150, .bool true), (151, .bool true), (152, .int .i64 (readLL M10.d x79.key (nowL M10.d lo hi).1 lo hi).2.2), (153, .bool (!((readLL M10.d x79.key (nowL M10.d lo hi).1 lo hi).2.2 == 0))), (154, .bool false), (155, .bool (readLL M10.d x79.key (nowL M10.d lo hi).1 lo hi).2.1), (156, .bool (!(readLL M10.d x79.key (nowL M10.d lo hi).1 lo hi).2.1)), (157, .bool (!(readLL M10.d x79.key (nowL M10.d lo hi).1 lo hi).2.1)), (158, .bool false), (159, .pointer (some ⟨g89, 1, none⟩)), (160, .int .i64 (readLL M10.d x79.key (nowL M10.d lo hi).1 lo hi).1.ts), (161, .int .i64 (newestRS M10.st x79.key).1), (162, .bool ((readLL M10.d x79.key (nowL M10.d lo hi).1 lo hi).1.ts == (newestRS M10.st x79.key).1)), (163, .bool true), (164, .int .i64 (newestRS M10.st x79.key).1), (165, .pointer (some ⟨g73, 1, none⟩)), (166, .int .i64 x67.t.ts), (167, .bool (decide ((newestRS M10.st x79.key).1 ≥ x67.t.ts))), (168, .bool (decide ((newestRS M10.st x79.key).1 ≥ x67.t.ts))), (169, .bool (decide ((newestRS M10.st x79.key).1 ≥ x67.t.ts))), (170, .bool (decide ((newestRS M10.st x79.key).1 ≥ x67.t.ts)))]) ⟨rfl, rfl, rfl, rfl, rfl, rfl, rfl, rfl, rfl, rfl, rfl, rfl, rfl, rfl, rfl, rfl, rfl, rfl, rfl, rfl, rfl, rfl, rfl, rfl, rfl, rfl, rfl, rfl, rfl, rfl, rfl, rfl, rfl, rfl, rfl, rfl, rfl, rfl, rfl, rfl, rfl, rfl, rfl, rfl, rfl, rfl, rfl, rfl, rfl, rfl, rfl, rfl, rfl, rfl, rfl, rfl, trivial⟩
                        refine xb_norm ?_
                        refine xt_norm ?_
                        refine wp_region_lit ?_
                        refine st_op (d := 171) (v' := .int .i64 (IntKind.i64.wrap (((k : Nat) : Int) + 1))) (v := .int .i64 (((k : Nat) : Int) + 1)) (vs := []) (obs := []) hK rfl (fun _ => by kernel_rfl) trivial (congrArg (Value.int .i64) (IntWalk.i64_in _ (by omega))) rfl rfl ?_
                        clear hK a; intro a hK
                        refine st_op (d := 128) (v' := .int .i64 (((k : Nat) : Int) + 1)) (vs := []) (obs := []) hK rfl (fun _ => by kernel_rfl) trivial rfl rfl rfl ?_
                        clear hK a; intro a hK
                        refine wpList_nil ?_
                        replace hK := hK.weak (K' := [(4, .pointer (some ⟨g3, 0, none⟩)), (6, .bool false), (8, .pointer (some ⟨g15, 0, none⟩)), (15, .int .i64 (nowL M10.d lo hi).1), (17, .pointer (some ⟨g73, 0, none⟩)), (126, .slice x67.wa x67.t.writes.length x67.wc), (127, .int .i64 ((x67.t.writes.length : Nat) : Int)), (128, .int .i64 (((k : Nat) : Int) + 1)), (7, .bool (decide ((newestRS M10.st x79.key).1 ≥ x67.t.ts))), (129, .bool true), (130, .pointer (some ⟨b81, o82 + k * 3, none⟩)), (131, .agg #[.int .i64 x79.key, .int .i64 x79.value, .bool x79.gone]), (19, .pointer (some ⟨g85, 0, none⟩)), (133, .agg #[.int .i64 M10.last, .slice M10.sa M10.st.length M10.sc, .slice M10.oa M10.op.length M10.oc]), (134, .pointer (some ⟨g85, 0, none⟩)), (135, .int .i64 x79.key), (136, .int .i64 (nowL M10.d lo hi).1), (137, .agg #[.int .i64 lo, .int .i64 hi]), (138, .tuple #[.agg #[.int .i64 (readLL M10.d x79.key (nowL M10.d lo hi).1 lo hi).1.key, .int .i64 (readLL M10.d x79.key (nowL M10.d lo hi).1 lo hi).1.ts, .int .i64 (readLL M10.d x79.key (nowL M10.d lo hi).1 lo hi).1.value, .bool (readLL M10.d x79.key (nowL M10.d lo hi).1 lo hi).1.gone], .bool (readLL M10.d x79.key (nowL M10.d lo hi).1 lo hi).2.1, .int .i64 (readLL M10.d x79.key (nowL M10.d lo hi).1 lo hi).2.2]), (132, .tuple #[.agg #[.int .i64 (readLL M10.d x79.key (nowL M10.d lo hi).1 lo hi).1.key, .int .i64 (readLL M10.d x79.key (nowL M10.d lo hi).1 lo hi).1.ts, .int .i64 (readLL M10.d x79.key (nowL M10.d lo hi).1 lo hi).1.value, .bool (readLL M10.d x79.key (nowL M10.d lo hi).1 lo hi).1.gone], .bool (readLL M10.d x79.key (nowL M10.d lo hi).1 lo hi).2.1, .int .i64 (readLL M10.d x79.key (nowL M10.d lo hi).1 lo hi).2.2]), (139, .agg #[.int .i64 (readLL M10.d x79.key (nowL M10.d lo hi).1 lo hi).1.key, .int .i64 (readLL M10.d x79.key (nowL M10.d lo hi).1 lo hi).1.ts, .int .i64 (readLL M10.d x79.key (nowL M10.d lo hi).1 lo hi).1.value, .bool (readLL M10.d x79.key (nowL M10.d lo hi).1 lo hi).1.gone]), (140, .bool (readLL M10.d x79.key (nowL M10.d lo hi).1 lo hi).2.1), (141, .int .i64 (readLL M10.d x79.key (nowL M10.d lo hi).1 lo hi).2.2), (20, .pointer (some ⟨g89, 0, none⟩)), (21, .bool (readLL M10.d x79.key (nowL M10.d lo hi).1 lo hi).2.1), (22, .int .i64 (readLL M10.d x79.key (nowL M10.d lo hi).1 lo hi).2.2), (143, .pointer (some ⟨g15, 1, none⟩)), (144, .slice M10.sa M10.st.length M10.sc), (145, .pointer (some ⟨g85, 0, none⟩)), (146, .int .i64 x79.key), (147, .tuple #[.int .i64 (newestRS M10.st x79.key).1, .int .i64 (newestRS M10.st x79.key).2]), (142, .tuple #[.int .i64 (newestRS M10.st x79.key).1, .int .i64 (newestRS M10.st x79.key).2]), (148, .int .i64 (newestRS M10.st x79.key).1), (149, .int .i64 (newestRS M10.st x79.key).2), (23, .int .i64 (newestRS M10.st x79.key).1), (150, .bool true), (151, .bool true), (152, .int .i64 (readLL M10.d x79.key (nowL M10.d lo hi).1 lo hi).2.2), (153, .bool (!((readLL M10.d x79.key (nowL M10.d lo hi).1 lo hi).2.2 == 0))), (154, .bool false), (155, .bool (readLL M10.d x79.key (nowL M10.d lo hi).1 lo hi).2.1), (156, .bool (!(readLL M10.d x79.key (nowL M10.d lo hi).1 lo hi).2.1)), (157, .bool (!(readLL M10.d x79.key (nowL M10.d lo hi).1 lo hi).2.1)), (158, .bool false), (159, .pointer (some ⟨g89, 1, none⟩)), (160, .int .i64 (readLL M10.d x79.key (nowL M10.d lo hi).1 lo hi).1.ts), (161, .int .i64 (newestRS M10.st x79.key).1), (162, .bool ((readLL M10.d x79.key (nowL M10.d lo hi).1 lo hi).1.ts == (newestRS M10.st x79.key).1)), (163, .bool true), (164, .int .i64 (newestRS M10.st x79.key).1), (165, .pointer (some ⟨g73, 1, none⟩)), (166, .int .i64 x67.t.ts), (167, .bool (decide ((newestRS M10.st x79.key).1 ≥ x67.t.ts))), (168, .bool (decide ((newestRS M10.st x79.key).1 ≥ x67.t.ts))), (169, .bool (decide ((newestRS M10.st x79.key).1 ≥ x67.t.ts))), (170, .bool (decide ((newestRS M10.st x79.key).1 ≥ x67.t.ts))), (171, .int .i64 (((k : Nat) : Int) + 1))]) ⟨rfl, rfl, rfl, rfl, rfl, rfl, rfl, rfl, rfl, rfl, rfl, rfl, rfl, rfl, rfl, rfl, rfl, rfl, rfl, rfl, rfl, rfl, rfl, rfl, rfl, rfl, rfl, rfl, rfl, rfl, rfl, rfl, rfl, rfl, rfl, rfl, rfl, rfl, rfl, rfl, rfl, rfl, rfl, rfl, rfl, rfl, rfl, rfl, rfl, rfl, rfl, rfl, rfl, rfl, rfl, rfl, rfl, trivial⟩
                        refine xt_norm ?_
                        replace hK := hK.sub (d := 128) (v' := .int .i64 (((k + 1) : Nat) : Int)) rfl (by first | rfl | (congr 1; omega))
                        have hd96 : (decide ((newestRS M10.st x79.key).1 ≥ x67.t.ts)) = true := decide_eq_true (by have hw := waits_law (D := L.d) hok hiv (hm10 ▸ txs_at hx68) hx80 (by have h := hc93p; rw [hnow, hM10] at h; exact h) (by have h := hc94; rw [hnow, hM10] at h; exact h); rw [show M10.st = (showS L.d lo hi).1.st by rw [← hM10]; rfl]; exact hw.2)
                        replace hK := hK.sub (d := 7) (v' := .bool true) rfl (congrArg Value.bool hd96)
                        refine ⟨k + 1, ⟨hK.weak ⟨rfl, rfl, rfl, rfl, rfl, rfl, rfl, rfl, rfl, trivial⟩, hE.drop (.cons _ (.cons _ (.cons _ (.cons _ (.cons_cons _ (.cons_cons _ (.cons_cons _ (.cons_cons _ (.cons_cons _ (.cons_cons _ (.cons_cons _ (.cons_cons _ (.cons_cons _ (.cons_cons _ (.cons_cons _ (.cons_cons _ (.cons_cons _ .slnil))))))))))))))))), by omega, trivial⟩, by omega⟩
                      · replace hK := hK.sub (d := 158) (v' := .bool true) rfl (congrArg (fun b => Value.bool !b) hc94)
                        refine st_skip (d := 159) hK rfl rfl rfl ?_
                        clear hK a; intro a hK
                        refine st_skip (d := 160) hK rfl rfl rfl ?_
                        clear hK a; intro a hK
                        refine st_skip (d := 161) hK rfl rfl rfl ?_
                        clear hK a; intro a hK
                        refine st_skip (d := 162) hK rfl rfl rfl ?_
                        clear hK a; intro a hK
                        refine st_skip (d := 163) hK rfl rfl rfl ?_
                        clear hK a; intro a hK
                        refine st_skip (d := 164) hK rfl rfl rfl ?_
                        clear hK a; intro a hK
                        refine st_skip (d := 165) hK rfl rfl rfl ?_
                        clear hK a; intro a hK
                        refine st_skip (d := 166) hK rfl rfl rfl ?_
                        clear hK a; intro a hK
                        refine st_skip (d := 167) hK rfl rfl rfl ?_
                        clear hK a; intro a hK
                        refine st_skip (d := 168) hK rfl rfl rfl ?_
                        clear hK a; intro a hK
                        refine st_op (d := 169) (v' := .bool true) (vs := []) (obs := []) hK rfl (fun _ => by kernel_rfl) trivial rfl rfl rfl ?_
                        clear hK a; intro a hK
                        refine st_op (d := 170) (v' := .bool true) (vs := []) (obs := []) hK rfl (fun _ => by kernel_rfl) trivial rfl rfl rfl ?_
                        clear hK a; intro a hK
                        refine st_op (d := 7) (v' := .bool true) (vs := []) (obs := []) hK rfl (fun _ => by kernel_rfl) trivial rfl rfl rfl ?_
                        clear hK a; intro a hK
                        refine wpList_nil ?_
                        replace hK := hK.weak (K' := [(4, .pointer (some ⟨g3, 0, none⟩)), (6, .bool false), (8, .pointer (some ⟨g15, 0, none⟩)), (15, .int .i64 (nowL M10.d lo hi).1), (17, .pointer (some ⟨g73, 0, none⟩)), (126, .slice x67.wa x67.t.writes.length x67.wc), (127, .int .i64 ((x67.t.writes.length : Nat) : Int)), (128, .int .i64 ((k : Nat) : Int)), (7, .bool true), (129, .bool true), (130, .pointer (some ⟨b81, o82 + k * 3, none⟩)), (131, .agg #[.int .i64 x79.key, .int .i64 x79.value, .bool x79.gone]), (19, .pointer (some ⟨g85, 0, none⟩)), (133, .agg #[.int .i64 M10.last, .slice M10.sa M10.st.length M10.sc, .slice M10.oa M10.op.length M10.oc]), (134, .pointer (some ⟨g85, 0, none⟩)), (135, .int .i64 x79.key), (136, .int .i64 (nowL M10.d lo hi).1), (137, .agg #[.int .i64 lo, .int .i64 hi]), (138, .tuple #[.agg #[.int .i64 (readLL M10.d x79.key (nowL M10.d lo hi).1 lo hi).1.key, .int .i64 (readLL M10.d x79.key (nowL M10.d lo hi).1 lo hi).1.ts, .int .i64 (readLL M10.d x79.key (nowL M10.d lo hi).1 lo hi).1.value, .bool (readLL M10.d x79.key (nowL M10.d lo hi).1 lo hi).1.gone], .bool (readLL M10.d x79.key (nowL M10.d lo hi).1 lo hi).2.1, .int .i64 (readLL M10.d x79.key (nowL M10.d lo hi).1 lo hi).2.2]), (132, .tuple #[.agg #[.int .i64 (readLL M10.d x79.key (nowL M10.d lo hi).1 lo hi).1.key, .int .i64 (readLL M10.d x79.key (nowL M10.d lo hi).1 lo hi).1.ts, .int .i64 (readLL M10.d x79.key (nowL M10.d lo hi).1 lo hi).1.value, .bool (readLL M10.d x79.key (nowL M10.d lo hi).1 lo hi).1.gone], .bool (readLL M10.d x79.key (nowL M10.d lo hi).1 lo hi).2.1, .int .i64 (readLL M10.d x79.key (nowL M10.d lo hi).1 lo hi).2.2]), (139, .agg #[.int .i64 (readLL M10.d x79.key (nowL M10.d lo hi).1 lo hi).1.key, .int .i64 (readLL M10.d x79.key (nowL M10.d lo hi).1 lo hi).1.ts, .int .i64 (readLL M10.d x79.key (nowL M10.d lo hi).1 lo hi).1.value, .bool (readLL M10.d x79.key (nowL M10.d lo hi).1 lo hi).1.gone]), (140, .bool (readLL M10.d x79.key (nowL M10.d lo hi).1 lo hi).2.1), (141, .int .i64 (readLL M10.d x79.key (nowL M10.d lo hi).1 lo hi).2.2), (20, .pointer (some ⟨g89, 0, none⟩)), (21, .bool (readLL M10.d x79.key (nowL M10.d lo hi).1 lo hi).2.1), (22, .int .i64 (readLL M10.d x79.key (nowL M10.d lo hi).1 lo hi).2.2), (143, .pointer (some ⟨g15, 1, none⟩)), (144, .slice M10.sa M10.st.length M10.sc), (145, .pointer (some ⟨g85, 0, none⟩)), (146, .int .i64 x79.key), (147, .tuple #[.int .i64 (newestRS M10.st x79.key).1, .int .i64 (newestRS M10.st x79.key).2]), (142, .tuple #[.int .i64 (newestRS M10.st x79.key).1, .int .i64 (newestRS M10.st x79.key).2]), (148, .int .i64 (newestRS M10.st x79.key).1), (149, .int .i64 (newestRS M10.st x79.key).2), (23, .int .i64 (newestRS M10.st x79.key).1), (150, .bool true), (151, .bool true), (152, .int .i64 (readLL M10.d x79.key (nowL M10.d lo hi).1 lo hi).2.2), (153, .bool (!((readLL M10.d x79.key (nowL M10.d lo hi).1 lo hi).2.2 == 0))), (154, .bool false), (155, .bool (readLL M10.d x79.key (nowL M10.d lo hi).1 lo hi).2.1), (156, .bool (!(readLL M10.d x79.key (nowL M10.d lo hi).1 lo hi).2.1)), (157, .bool (!(readLL M10.d x79.key (nowL M10.d lo hi).1 lo hi).2.1)), (158, .bool true), (169, .bool true), (170, .bool true)]) ⟨rfl, rfl, rfl, rfl, rfl, rfl, rfl, rfl, rfl, rfl, rfl, rfl, rfl, rfl, rfl, rfl, rfl, rfl, rfl, rfl, rfl, rfl, rfl, rfl, rfl, rfl, rfl, rfl, rfl, rfl, rfl, rfl, rfl, rfl, rfl, rfl, rfl, rfl, rfl, rfl, rfl, rfl, rfl, rfl, rfl, rfl, trivial⟩
                        refine xb_norm ?_
                        refine xt_norm ?_
                        refine wp_region_lit ?_
                        refine st_op (d := 171) (v' := .int .i64 (IntKind.i64.wrap (((k : Nat) : Int) + 1))) (v := .int .i64 (((k : Nat) : Int) + 1)) (vs := []) (obs := []) hK rfl (fun _ => by kernel_rfl) trivial (congrArg (Value.int .i64) (IntWalk.i64_in _ (by omega))) rfl rfl ?_
                        clear hK a; intro a hK
                        refine st_op (d := 128) (v' := .int .i64 (((k : Nat) : Int) + 1)) (vs := []) (obs := []) hK rfl (fun _ => by kernel_rfl) trivial rfl rfl rfl ?_
                        clear hK a; intro a hK
                        refine wpList_nil ?_
                        replace hK := hK.weak (K' := [(4, .pointer (some ⟨g3, 0, none⟩)), (6, .bool false), (8, .pointer (some ⟨g15, 0, none⟩)), (15, .int .i64 (nowL M10.d lo hi).1), (17, .pointer (some ⟨g73, 0, none⟩)), (126, .slice x67.wa x67.t.writes.length x67.wc), (127, .int .i64 ((x67.t.writes.length : Nat) : Int)), (128, .int .i64 (((k : Nat) : Int) + 1)), (7, .bool true), (129, .bool true), (130, .pointer (some ⟨b81, o82 + k * 3, none⟩)), (131, .agg #[.int .i64 x79.key, .int .i64 x79.value, .bool x79.gone]), (19, .pointer (some ⟨g85, 0, none⟩)), (133, .agg #[.int .i64 M10.last, .slice M10.sa M10.st.length M10.sc, .slice M10.oa M10.op.length M10.oc]), (134, .pointer (some ⟨g85, 0, none⟩)), (135, .int .i64 x79.key), (136, .int .i64 (nowL M10.d lo hi).1), (137, .agg #[.int .i64 lo, .int .i64 hi]), (138, .tuple #[.agg #[.int .i64 (readLL M10.d x79.key (nowL M10.d lo hi).1 lo hi).1.key, .int .i64 (readLL M10.d x79.key (nowL M10.d lo hi).1 lo hi).1.ts, .int .i64 (readLL M10.d x79.key (nowL M10.d lo hi).1 lo hi).1.value, .bool (readLL M10.d x79.key (nowL M10.d lo hi).1 lo hi).1.gone], .bool (readLL M10.d x79.key (nowL M10.d lo hi).1 lo hi).2.1, .int .i64 (readLL M10.d x79.key (nowL M10.d lo hi).1 lo hi).2.2]), (132, .tuple #[.agg #[.int .i64 (readLL M10.d x79.key (nowL M10.d lo hi).1 lo hi).1.key, .int .i64 (readLL M10.d x79.key (nowL M10.d lo hi).1 lo hi).1.ts, .int .i64 (readLL M10.d x79.key (nowL M10.d lo hi).1 lo hi).1.value, .bool (readLL M10.d x79.key (nowL M10.d lo hi).1 lo hi).1.gone], .bool (readLL M10.d x79.key (nowL M10.d lo hi).1 lo hi).2.1, .int .i64 (readLL M10.d x79.key (nowL M10.d lo hi).1 lo hi).2.2]), (139, .agg #[.int .i64 (readLL M10.d x79.key (nowL M10.d lo hi).1 lo hi).1.key, .int .i64 (readLL M10.d x79.key (nowL M10.d lo hi).1 lo hi).1.ts, .int .i64 (readLL M10.d x79.key (nowL M10.d lo hi).1 lo hi).1.value, .bool (readLL M10.d x79.key (nowL M10.d lo hi).1 lo hi).1.gone]), (140, .bool (readLL M10.d x79.key (nowL M10.d lo hi).1 lo hi).2.1), (141, .int .i64 (readLL M10.d x79.key (nowL M10.d lo hi).1 lo hi).2.2), (20, .pointer (some ⟨g89, 0, none⟩)), (21, .bool (readLL M10.d x79.key (nowL M10.d lo hi).1 lo hi).2.1), (22, .int .i64 (readLL M10.d x79.key (nowL M10.d lo hi).1 lo hi).2.2), (143, .pointer (some ⟨g15, 1, none⟩)), (144, .slice M10.sa M10.st.length M10.sc), (145, .pointer (some ⟨g85, 0, none⟩)), (146, .int .i64 x79.key), (147, .tuple #[.int .i64 (newestRS M10.st x79.key).1, .int .i64 (newestRS M10.st x79.key).2]), (142, .tuple #[.int .i64 (newestRS M10.st x79.key).1, .int .i64 (newestRS M10.st x79.key).2]), (148, .int .i64 (newestRS M10.st x79.key).1), (149, .int .i64 (newestRS M10.st x79.key).2), (23, .int .i64 (newestRS M10.st x79.key).1), (150, .bool true), (151, .bool true), (152, .int .i64 (readLL M10.d x79.key (nowL M10.d lo hi).1 lo hi).2.2), (153, .bool (!((readLL M10.d x79.key (nowL M10.d lo hi).1 lo hi).2.2 == 0))), (154, .bool false), (155, .bool (readLL M10.d x79.key (nowL M10.d lo hi).1 lo hi).2.1), (156, .bool (!(readLL M10.d x79.key (nowL M10.d lo hi).1 lo hi).2.1)), (157, .bool (!(readLL M10.d x79.key (nowL M10.d lo hi).1 lo hi).2.1)), (158, .bool true), (169, .bool true), (170, .bool true), (171, .int .i64 (((k : Nat) : Int) + 1))]) ⟨rfl, rfl, rfl, rfl, rfl, rfl, rfl, rfl, rfl, rfl, rfl, rfl, rfl, rfl, rfl, rfl, rfl, rfl, rfl, rfl, rfl, rfl, rfl, rfl, rfl, rfl, rfl, rfl, rfl, rfl, rfl, rfl, rfl, rfl, rfl, rfl, rfl, rfl, rfl, rfl, rfl, rfl, rfl, rfl, rfl, rfl, rfl, trivial⟩
                        refine xt_norm ?_
                        replace hK := hK.sub (d := 128) (v' := .int .i64 (((k + 1) : Nat) : Int)) rfl (by first | rfl | (congr 1; omega))
                        refine ⟨k + 1, ⟨hK.weak ⟨rfl, rfl, rfl, rfl, rfl, rfl, rfl, rfl, rfl, trivial⟩, hE.drop (.cons _ (.cons _ (.cons _ (.cons _ (.cons_cons _ (.cons_cons _ (.cons_cons _ (.cons_cons _ (.cons_cons _ (.cons_cons _ (.cons_cons _ (.cons_cons _ (.cons_cons _ (.cons_cons _ (.cons_cons _ (.cons_cons _ (.cons_cons _ .slnil))))))))))))))))), by omega, trivial⟩, by omega⟩
                    · have hc93p := ne_of_beq_false hc93
                      replace hK := hK.sub (d := 154) (v' := .bool true) rfl (congrArg (fun b => Value.bool !b) hc93)
                      refine st_skip (d := 155) hK rfl rfl rfl ?_
                      clear hK a; intro a hK
                      refine st_skip (d := 156) hK rfl rfl rfl ?_
                      clear hK a; intro a hK
                      refine st_op (d := 157) (v' := .bool true) (vs := []) (obs := []) hK rfl (fun _ => by kernel_rfl) trivial rfl rfl rfl ?_
                      clear hK a; intro a hK
                      refine st_op (d := 158) (v' := .bool true) (vs := []) (obs := []) hK rfl (fun _ => by kernel_rfl) trivial rfl rfl rfl ?_
                      clear hK a; intro a hK
                      refine st_skip (d := 159) hK rfl rfl rfl ?_
                      clear hK a; intro a hK
                      refine st_skip (d := 160) hK rfl rfl rfl ?_
                      clear hK a; intro a hK
                      refine st_skip (d := 161) hK rfl rfl rfl ?_
                      clear hK a; intro a hK
                      refine st_skip (d := 162) hK rfl rfl rfl ?_
                      clear hK a; intro a hK
                      refine st_skip (d := 163) hK rfl rfl rfl ?_
                      clear hK a; intro a hK
                      refine st_skip (d := 164) hK rfl rfl rfl ?_
                      clear hK a; intro a hK
                      refine st_skip (d := 165) hK rfl rfl rfl ?_
                      clear hK a; intro a hK
                      refine st_skip (d := 166) hK rfl rfl rfl ?_
                      clear hK a; intro a hK
                      refine st_skip (d := 167) hK rfl rfl rfl ?_
                      clear hK a; intro a hK
                      refine st_skip (d := 168) hK rfl rfl rfl ?_
                      clear hK a; intro a hK
                      refine st_op (d := 169) (v' := .bool true) (vs := []) (obs := []) hK rfl (fun _ => by kernel_rfl) trivial rfl rfl rfl ?_
                      clear hK a; intro a hK
                      refine st_op (d := 170) (v' := .bool true) (vs := []) (obs := []) hK rfl (fun _ => by kernel_rfl) trivial rfl rfl rfl ?_
                      clear hK a; intro a hK
                      refine st_op (d := 7) (v' := .bool true) (vs := []) (obs := []) hK rfl (fun _ => by kernel_rfl) trivial rfl rfl rfl ?_
                      clear hK a; intro a hK
                      refine wpList_nil ?_
                      replace hK := hK.weak (K' := [(4, .pointer (some ⟨g3, 0, none⟩)), (6, .bool false), (8, .pointer (some ⟨g15, 0, none⟩)), (15, .int .i64 (nowL M10.d lo hi).1), (17, .pointer (some ⟨g73, 0, none⟩)), (126, .slice x67.wa x67.t.writes.length x67.wc), (127, .int .i64 ((x67.t.writes.length : Nat) : Int)), (128, .int .i64 ((k : Nat) : Int)), (7, .bool true), (129, .bool true), (130, .pointer (some ⟨b81, o82 + k * 3, none⟩)), (131, .agg #[.int .i64 x79.key, .int .i64 x79.value, .bool x79.gone]), (19, .pointer (some ⟨g85, 0, none⟩)), (133, .agg #[.int .i64 M10.last, .slice M10.sa M10.st.length M10.sc, .slice M10.oa M10.op.length M10.oc]), (134, .pointer (some ⟨g85, 0, none⟩)), (135, .int .i64 x79.key), (136, .int .i64 (nowL M10.d lo hi).1), (137, .agg #[.int .i64 lo, .int .i64 hi]), (138, .tuple #[.agg #[.int .i64 (readLL M10.d x79.key (nowL M10.d lo hi).1 lo hi).1.key, .int .i64 (readLL M10.d x79.key (nowL M10.d lo hi).1 lo hi).1.ts, .int .i64 (readLL M10.d x79.key (nowL M10.d lo hi).1 lo hi).1.value, .bool (readLL M10.d x79.key (nowL M10.d lo hi).1 lo hi).1.gone], .bool (readLL M10.d x79.key (nowL M10.d lo hi).1 lo hi).2.1, .int .i64 (readLL M10.d x79.key (nowL M10.d lo hi).1 lo hi).2.2]), (132, .tuple #[.agg #[.int .i64 (readLL M10.d x79.key (nowL M10.d lo hi).1 lo hi).1.key, .int .i64 (readLL M10.d x79.key (nowL M10.d lo hi).1 lo hi).1.ts, .int .i64 (readLL M10.d x79.key (nowL M10.d lo hi).1 lo hi).1.value, .bool (readLL M10.d x79.key (nowL M10.d lo hi).1 lo hi).1.gone], .bool (readLL M10.d x79.key (nowL M10.d lo hi).1 lo hi).2.1, .int .i64 (readLL M10.d x79.key (nowL M10.d lo hi).1 lo hi).2.2]), (139, .agg #[.int .i64 (readLL M10.d x79.key (nowL M10.d lo hi).1 lo hi).1.key, .int .i64 (readLL M10.d x79.key (nowL M10.d lo hi).1 lo hi).1.ts, .int .i64 (readLL M10.d x79.key (nowL M10.d lo hi).1 lo hi).1.value, .bool (readLL M10.d x79.key (nowL M10.d lo hi).1 lo hi).1.gone]), (140, .bool (readLL M10.d x79.key (nowL M10.d lo hi).1 lo hi).2.1), (141, .int .i64 (readLL M10.d x79.key (nowL M10.d lo hi).1 lo hi).2.2), (20, .pointer (some ⟨g89, 0, none⟩)), (21, .bool (readLL M10.d x79.key (nowL M10.d lo hi).1 lo hi).2.1), (22, .int .i64 (readLL M10.d x79.key (nowL M10.d lo hi).1 lo hi).2.2), (143, .pointer (some ⟨g15, 1, none⟩)), (144, .slice M10.sa M10.st.length M10.sc), (145, .pointer (some ⟨g85, 0, none⟩)), (146, .int .i64 x79.key), (147, .tuple #[.int .i64 (newestRS M10.st x79.key).1, .int .i64 (newestRS M10.st x79.key).2]), (142, .tuple #[.int .i64 (newestRS M10.st x79.key).1, .int .i64 (newestRS M10.st x79.key).2]), (148, .int .i64 (newestRS M10.st x79.key).1), (149, .int .i64 (newestRS M10.st x79.key).2), (23, .int .i64 (newestRS M10.st x79.key).1), (150, .bool true), (151, .bool true), (152, .int .i64 (readLL M10.d x79.key (nowL M10.d lo hi).1 lo hi).2.2), (153, .bool (!((readLL M10.d x79.key (nowL M10.d lo hi).1 lo hi).2.2 == 0))), (154, .bool true), (157, .bool true), (158, .bool true), (169, .bool true), (170, .bool true)]) ⟨rfl, rfl, rfl, rfl, rfl, rfl, rfl, rfl, rfl, rfl, rfl, rfl, rfl, rfl, rfl, rfl, rfl, rfl, rfl, rfl, rfl, rfl, rfl, rfl, rfl, rfl, rfl, rfl, rfl, rfl, rfl, rfl, rfl, rfl, rfl, rfl, rfl, rfl, rfl, rfl, rfl, rfl, rfl, rfl, trivial⟩
                      refine xb_norm ?_
                      refine xt_norm ?_
                      refine wp_region_lit ?_
                      refine st_op (d := 171) (v' := .int .i64 (IntKind.i64.wrap (((k : Nat) : Int) + 1))) (v := .int .i64 (((k : Nat) : Int) + 1)) (vs := []) (obs := []) hK rfl (fun _ => by kernel_rfl) trivial (congrArg (Value.int .i64) (IntWalk.i64_in _ (by omega))) rfl rfl ?_
                      clear hK a; intro a hK
                      refine st_op (d := 128) (v' := .int .i64 (((k : Nat) : Int) + 1)) (vs := []) (obs := []) hK rfl (fun _ => by kernel_rfl) trivial rfl rfl rfl ?_
                      clear hK a; intro a hK
                      refine wpList_nil ?_
                      replace hK := hK.weak (K' := [(4, .pointer (some ⟨g3, 0, none⟩)), (6, .bool false), (8, .pointer (some ⟨g15, 0, none⟩)), (15, .int .i64 (nowL M10.d lo hi).1), (17, .pointer (some ⟨g73, 0, none⟩)), (126, .slice x67.wa x67.t.writes.length x67.wc), (127, .int .i64 ((x67.t.writes.length : Nat) : Int)), (128, .int .i64 (((k : Nat) : Int) + 1)), (7, .bool true), (129, .bool true), (130, .pointer (some ⟨b81, o82 + k * 3, none⟩)), (131, .agg #[.int .i64 x79.key, .int .i64 x79.value, .bool x79.gone]), (19, .pointer (some ⟨g85, 0, none⟩)), (133, .agg #[.int .i64 M10.last, .slice M10.sa M10.st.length M10.sc, .slice M10.oa M10.op.length M10.oc]), (134, .pointer (some ⟨g85, 0, none⟩)), (135, .int .i64 x79.key), (136, .int .i64 (nowL M10.d lo hi).1), (137, .agg #[.int .i64 lo, .int .i64 hi]), (138, .tuple #[.agg #[.int .i64 (readLL M10.d x79.key (nowL M10.d lo hi).1 lo hi).1.key, .int .i64 (readLL M10.d x79.key (nowL M10.d lo hi).1 lo hi).1.ts, .int .i64 (readLL M10.d x79.key (nowL M10.d lo hi).1 lo hi).1.value, .bool (readLL M10.d x79.key (nowL M10.d lo hi).1 lo hi).1.gone], .bool (readLL M10.d x79.key (nowL M10.d lo hi).1 lo hi).2.1, .int .i64 (readLL M10.d x79.key (nowL M10.d lo hi).1 lo hi).2.2]), (132, .tuple #[.agg #[.int .i64 (readLL M10.d x79.key (nowL M10.d lo hi).1 lo hi).1.key, .int .i64 (readLL M10.d x79.key (nowL M10.d lo hi).1 lo hi).1.ts, .int .i64 (readLL M10.d x79.key (nowL M10.d lo hi).1 lo hi).1.value, .bool (readLL M10.d x79.key (nowL M10.d lo hi).1 lo hi).1.gone], .bool (readLL M10.d x79.key (nowL M10.d lo hi).1 lo hi).2.1, .int .i64 (readLL M10.d x79.key (nowL M10.d lo hi).1 lo hi).2.2]), (139, .agg #[.int .i64 (readLL M10.d x79.key (nowL M10.d lo hi).1 lo hi).1.key, .int .i64 (readLL M10.d x79.key (nowL M10.d lo hi).1 lo hi).1.ts, .int .i64 (readLL M10.d x79.key (nowL M10.d lo hi).1 lo hi).1.value, .bool (readLL M10.d x79.key (nowL M10.d lo hi).1 lo hi).1.gone]), (140, .bool (readLL M10.d x79.key (nowL M10.d lo hi).1 lo hi).2.1), (141, .int .i64 (readLL M10.d x79.key (nowL M10.d lo hi).1 lo hi).2.2), (20, .pointer (some ⟨g89, 0, none⟩)), (21, .bool (readLL M10.d x79.key (nowL M10.d lo hi).1 lo hi).2.1), (22, .int .i64 (readLL M10.d x79.key (nowL M10.d lo hi).1 lo hi).2.2), (143, .pointer (some ⟨g15, 1, none⟩)), (144, .slice M10.sa M10.st.length M10.sc), (145, .pointer (some ⟨g85, 0, none⟩)), (146, .int .i64 x79.key), (147, .tuple #[.int .i64 (newestRS M10.st x79.key).1, .int .i64 (newestRS M10.st x79.key).2]), (142, .tuple #[.int .i64 (newestRS M10.st x79.key).1, .int .i64 (newestRS M10.st x79.key).2]), (148, .int .i64 (newestRS M10.st x79.key).1), (149, .int .i64 (newestRS M10.st x79.key).2), (23, .int .i64 (newestRS M10.st x79.key).1), (150, .bool true), (151, .bool true), (152, .int .i64 (readLL M10.d x79.key (nowL M10.d lo hi).1 lo hi).2.2), (153, .bool (!((readLL M10.d x79.key (nowL M10.d lo hi).1 lo hi).2.2 == 0))), (154, .bool true), (157, .bool true), (158, .bool true), (169, .bool true), (170, .bool true), (171, .int .i64 (((k : Nat) : Int) + 1))]) ⟨rfl, rfl, rfl, rfl, rfl, rfl, rfl, rfl, rfl, rfl, rfl, rfl, rfl, rfl, rfl, rfl, rfl, rfl, rfl, rfl, rfl, rfl, rfl, rfl, rfl, rfl, rfl, rfl, rfl, rfl, rfl, rfl, rfl, rfl, rfl, rfl, rfl, rfl, rfl, rfl, rfl, rfl, rfl, rfl, rfl, trivial⟩
                      refine xt_norm ?_
                      replace hK := hK.sub (d := 128) (v' := .int .i64 (((k + 1) : Nat) : Int)) rfl (by first | rfl | (congr 1; omega))
                      refine ⟨k + 1, ⟨hK.weak ⟨rfl, rfl, rfl, rfl, rfl, rfl, rfl, rfl, rfl, trivial⟩, hE.drop (.cons _ (.cons _ (.cons _ (.cons _ (.cons_cons _ (.cons_cons _ (.cons_cons _ (.cons_cons _ (.cons_cons _ (.cons_cons _ (.cons_cons _ (.cons_cons _ (.cons_cons _ (.cons_cons _ (.cons_cons _ (.cons_cons _ (.cons_cons _ .slnil))))))))))))))))), by omega, trivial⟩, by omega⟩
                  · have hc78p := of_decide_eq_false hc78
                    replace hK := hK.sub (d := 129) (v' := .bool false) rfl (congrArg Value.bool hc78)
                    refine vc_cond (t := false) hK (fun _ => rfl) ?_
                    rw [if_neg (by simp)]
                    refine wp_exit ?_
                    refine xt_exit ?_
                    refine xt_exit ?_
                    refine xb_hit ?_
                    refine xt_norm ?_
                    refine wp_seq ?_
                    refine wp_region_lit ?_
                    refine st_op (d := 172) (v' := .bool true) (vs := []) (obs := []) hK rfl (fun _ => by kernel_rfl) trivial rfl rfl rfl ?_
                    clear hK a; intro a hK
                    refine st_op (d := 6) (v' := .bool true) (vs := []) (obs := []) hK rfl (fun _ => by kernel_rfl) trivial rfl rfl rfl ?_
                    clear hK a; intro a hK
                    refine wpList_nil ?_
                    refine xt_norm ?_
                    refine wp_ret ?_
                    refine vc_ret (v' := .bool true) (vs := []) (obs := []) hK (fun _ => by kernel_rfl) trivial rfl ?_
                    exact ⟨rfl, hE.b⟩
    · replace hK := hK.sub (d := 33) (v' := .bool true) rfl (congrArg (fun b => Value.bool !b) hc9)
      refine vc_cond (t := true) hK (fun _ => rfl) ?_
      rw [if_pos rfl]
      refine wp_seq ?_
      refine wp_region_lit ?_
      refine st_op (d := 34) (v' := .bool true) (vs := []) (obs := []) hK rfl (fun _ => by kernel_rfl) trivial rfl rfl rfl ?_
      clear hK a; intro a hK
      refine st_op (d := 6) (v' := .bool true) (vs := []) (obs := []) hK rfl (fun _ => by kernel_rfl) trivial rfl rfl rfl ?_
      clear hK a; intro a hK
      refine wpList_nil ?_
      refine xt_norm ?_
      refine wp_ret ?_
      refine xt_ret ?_
      refine vc_ret (v' := .bool true) (vs := []) (obs := []) hK (fun _ => by kernel_rfl) trivial rfl ?_
      exact ⟨rfl, hE.b⟩
  · replace hK := hK.sub (d := 29) (v' := .bool true) rfl (congrArg (fun b => Value.bool !b) hc7)
    refine st_skip (d := 30) hK rfl rfl rfl ?_
    clear hK a; intro a hK
    refine st_skip (d := 31) hK rfl rfl rfl ?_
    clear hK a; intro a hK
    refine st_skip (d := 32) hK rfl rfl rfl ?_
    clear hK a; intro a hK
    refine st_op (d := 33) (v' := .bool true) (vs := []) (obs := []) hK rfl (fun _ => by kernel_rfl) trivial rfl rfl rfl ?_
    clear hK a; intro a hK
    refine wpList_nil ?_
    refine xt_norm ?_
    refine vc_cond (t := true) hK (fun _ => rfl) ?_
    rw [if_pos rfl]
    refine wp_seq ?_
    refine wp_region_lit ?_
    refine st_op (d := 34) (v' := .bool true) (vs := []) (obs := []) hK rfl (fun _ => by kernel_rfl) trivial rfl rfl rfl ?_
    clear hK a; intro a hK
    refine st_op (d := 6) (v' := .bool true) (vs := []) (obs := []) hK rfl (fun _ => by kernel_rfl) trivial rfl rfl rfl ?_
    clear hK a; intro a hK
    refine wpList_nil ?_
    refine xt_norm ?_
    refine wp_ret ?_
    refine xt_ret ?_
    refine vc_ret (v' := .bool true) (vs := []) (obs := []) hK (fun _ => by kernel_rfl) trivial rfl ?_
    exact ⟨rfl, hE.b⟩
end Go.Proofs.Ytficjpfhakggmaa
