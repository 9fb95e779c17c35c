/-
  The walk of the law CommitReads.
-/
import Derived.Test.YtficjpfhakggmaaPr34
import Derived.Test.YtficjpfhakggmaaVc
namespace Go.Proofs.Ytficjpfhakggmaa
open Go.RowKit Go.Maps
/-- the version of a key with the greatest Ts up to a time -/
def bstG (key ts : Int) (b x : Ver) : Ver := if x.key = key ∧ x.ts ≤ ts ∧ b.ts < x.ts then x else b
def bstF (key ts : Int) (l : List Ver) : Ver := l.foldl (bstG key ts) Ver.zero
theorem bst_snoc (key ts : Int) (l : List Ver) (x : Ver) : bstF key ts (l ++ [x]) = bstG key ts (bstF key ts l) x := by simp [bstF]
theorem take_at {α : Type} {l : List α} {k : Nat} {x : α} (h : l[k]? = some x) : l.take (k + 1) = l.take k ++ [x] := by
  rw [List.take_add_one, h]
  rfl
theorem bst_take (key ts : Int) {l : List Ver} {k : Nat} {x : Ver} (h : l[k]? = some x) : bstF key ts (l.take (k + 1)) = bstG key ts (bstF key ts (l.take k)) x := by
  rw [take_at h, bst_snoc]
theorem bst_hit {key ts : Int} {b x : Ver} (h : x.key = key ∧ x.ts ≤ ts ∧ b.ts < x.ts) : bstG key ts b x = x := if_pos h
theorem bst_miss {key ts : Int} {b x : Ver} (h : ¬(x.key = key ∧ x.ts ≤ ts ∧ b.ts < x.ts)) : bstG key ts b x = b := if_neg h
theorem verW_at {t : Tx} {i : Nat} {x : Wr} (h : t.writes[i]? = some x) : (verT t)[i]? = some ⟨x.key, t.ts, x.value, x.gone⟩ := by
  unfold verT
  rw [List.getElem?_map, h]
  rfl
theorem bst_w (key ts : Int) (m : List Ver) {t : Tx} {i : Nat} {x : Wr} (h : t.writes[i]? = some x) :
    bstF key ts (m ++ (verT t).take (i + 1)) = bstG key ts (bstF key ts (m ++ (verT t).take i)) ⟨x.key, t.ts, x.value, x.gone⟩ := by
  rw [take_at (verW_at h), ← List.append_assoc, bst_snoc]
theorem bst_next (key ts : Int) (m : List Ver) {l : List Tx} {j : Nat} {t : Tx} (h : l[j]? = some t) {i : Nat} (hi : ¬i < t.writes.length) :
    bstF key ts (m ++ (l.take (j + 1)).flatMap verT) = bstF key ts ((m ++ (l.take j).flatMap verT) ++ (verT t).take i) := by
  rw [take_at h, List.flatMap_append, List.take_of_length_le (l := verT t) (by rw [verT_len]; omega)]
  simp
theorem bst_spec (key ts : Int) : ∀ (l : List Ver) (b : Ver), (∀ x ∈ l, 1 ≤ x.ts) → (b = Ver.zero ∨ (b.key = key ∧ b.ts ≤ ts ∧ 1 ≤ b.ts)) →
    (l.foldl (bstG key ts) b = b ∧ (∀ x ∈ l, x.key = key → x.ts ≤ ts → x.ts ≤ b.ts)) ∨
      (l.foldl (bstG key ts) b ∈ l ∧ (l.foldl (bstG key ts) b).key = key ∧ (l.foldl (bstG key ts) b).ts ≤ ts ∧ b.ts < (l.foldl (bstG key ts) b).ts ∧ ∀ x ∈ l, x.key = key → x.ts ≤ ts → x.ts ≤ (l.foldl (bstG key ts) b).ts)
  | [], b, _, _ => .inl ⟨rfl, fun x hx => by cases hx⟩
  | x :: l, b, h1, hb => by
    have hx1 := h1 x (by simp)
    rw [List.foldl_cons]
    by_cases hm : x.key = key ∧ x.ts ≤ ts ∧ b.ts < x.ts
    · rw [bst_hit hm]
      right
      rcases bst_spec key ts l x (fun y hy => h1 y (by simp [hy])) (.inr ⟨hm.1, hm.2.1, hx1⟩) with ⟨e, h2⟩ | ⟨h2, h3, h4, h5, h6⟩
      · rw [e]
        refine ⟨by simp, hm.1, hm.2.1, hm.2.2, fun y hy hk ht => ?_⟩
        rcases List.mem_cons.1 hy with rfl | hy
        · omega
        · exact h2 y hy hk ht
      · refine ⟨by simp [h2], h3, h4, by omega, fun y hy hk ht => ?_⟩
        rcases List.mem_cons.1 hy with rfl | hy
        · omega
        · exact h6 y hy hk ht
    · rw [bst_miss hm]
      rcases bst_spec key ts l b (fun y hy => h1 y (by simp [hy])) hb with ⟨e, h2⟩ | ⟨h2, h3, h4, h5, h6⟩
      · left
        refine ⟨e, fun y hy hk ht => ?_⟩
        rcases List.mem_cons.1 hy with rfl | hy
        · have : ¬ b.ts < y.ts := fun hh => hm ⟨hk, ht, hh⟩
          omega
        · exact h2 y hy hk ht
      · right
        refine ⟨by simp [h2], h3, h4, h5, fun y hy hk ht => ?_⟩
        rcases List.mem_cons.1 hy with rfl | hy
        · have : ¬ b.ts < y.ts := fun hh => hm ⟨hk, ht, hh⟩
          omega
        · exact h6 y hy hk ht
theorem ver_pos {v : Ver} (h : wfB v = true) : 1 ≤ v.ts := by
  simp only [wfB, Bool.and_eq_true, decide_eq_true_eq] at h
  omega
/-- the last one of a key in a store is the greatest one -/
theorem last_bst {l m : List Ver} (hs : Sto l) (hm : ∀ x ∈ m, 1 ≤ x.ts) {key ts : Int} (h1 : ∀ x ∈ l, x ∈ m) (h2 : ∀ x ∈ m, x.key = key → x.ts ≤ ts → x ∈ l) : lastV l key ts = bstF key ts m := by
  rcases bst_spec key ts m Ver.zero hm (.inl rfl) with ⟨e, h⟩ | ⟨hr, hk, ht, hp, h⟩
  · rw [show bstF key ts m = Ver.zero from e]
    rcases lastV_spec hs.up key ts with ⟨e2, _⟩ | ⟨j, hj, e2, hkk, _⟩
    · exact e2
    · exfalso
      have hx := h1 l[j] (List.getElem_mem _)
      have := h _ hx hkk.1 hkk.2
      have := hm _ hx
      have : (Ver.zero).ts = 0 := rfl
      omega
  · have hl := h2 _ hr hk ht
    rcases lastV_spec hs.up key ts with ⟨_, h3⟩ | ⟨j, hj, e2, hkk, h3⟩
    · exact absurd ⟨hk, ht⟩ (h3 _ hl)
    · rw [e2]
      show _ = m.foldl (bstG key ts) Ver.zero
      obtain ⟨i, hi, hie⟩ := List.getElem_of_mem hl
      have hle := h _ (h1 _ (List.getElem_mem hj)) hkk.1 hkk.2
      rw [← hie] at hk ht hle ⊢
      have hij : ¬ j < i := fun hlt => h3 i hi hlt ⟨hk, ht⟩
      rcases Nat.lt_or_ge i j with hlt | hge
      · have := List.pairwise_iff_getElem.1 hs.up i j hi hj hlt
        unfold ltV at this
        omega
      · have : i = j := by omega
        subst this
        rfl
theorem reads_law {D : LD} {key ts lo hi blo bhi : Int} (hok : leadB D.last D.st D.op = true) (hiv : ivB lo hi = true) (h0 : (readLL (showS D lo hi).1 key ts blo bhi).2.2 = 0) :
    readLL (showS D lo hi).1 key ts blo bhi = atS (showS D lo hi).1.st key ts ∧
      atS (showS D lo hi).1.st key ts = (if (bstF key ts (D.st ++ D.op.flatMap verT)).ts = 0 ∨ (bstF key ts (D.st ++ D.op.flatMap verT)).gone = true then (Ver.zero, false, 0) else (bstF key ts (D.st ++ D.op.flatMap verT), true, 0)) := by
  have hrp := read_ok h0
  have hs0 := show_all hok hiv
  obtain ⟨_, _, hr⟩ := show_ok hs0
  have hsl := (shown_law hs0).1
  have hsto := (lead_iff.1 hsl).sto
  obtain ⟨hst0, ha⟩ := lead_adds hok
  refine ⟨read_of hrp, ?_⟩
  have hkey : keyB key = true := hrp.k
  have hstm : stampB ts = true := hrp.t
  have hv : validB (showS D lo hi).1.st = true := (sto_iff _).2 hsto
  have hpos : ∀ x ∈ D.st ++ D.op.flatMap verT, 1 ≤ x.ts := by
    intro x hx
    rcases List.mem_append.1 hx with hx | hx
    · exact ver_pos (hst0.wf x hx)
    · exact ver_pos (ha.wf x hx)
  have hmem : ∀ x, x ∈ (showS D lo hi).1.st ↔ x ∈ (D.op.take (pastN D.op lo)).flatMap verT ∨ x ∈ D.st := by
    intro x
    rw [hr]
    show x ∈ stAt D.st D.op (pastN D.op lo) 0 ↔ _
    rw [stAt_zero, (puts_perm _ _).mem_iff, List.mem_append]
  have hp := (past_zero (lead_chain hsl)).1 hrp.p
  have hL : lastV (showS D lo hi).1.st key ts = bstF key ts (D.st ++ D.op.flatMap verT) := by
    refine last_bst hsto hpos (fun x hx => ?_) (fun x hx hk ht => ?_)
    · rcases (hmem x).1 hx with hx | hx
      · refine List.mem_append_right _ ?_
        obtain ⟨t, ht, htx⟩ := List.mem_flatMap.1 hx
        exact List.mem_flatMap.2 ⟨t, List.mem_of_mem_take ht, htx⟩
      · exact List.mem_append_left _ hx
    · refine (hmem x).2 ?_
      rcases List.mem_append.1 hx with hx | hx
      · exact .inr hx
      · left
        obtain ⟨t, htt, htx⟩ := List.mem_flatMap.1 hx
        rw [← List.take_append_drop (pastN D.op lo) D.op] at htt
        rcases List.mem_append.1 htt with htt | htt
        · exact List.mem_flatMap.2 ⟨t, htt, htx⟩
        · exfalso
          have hq : t ∈ (showS D lo hi).1.op := by rw [hr]; exact htt
          have := hp t hq
          have := verT_ts htx
          omega
  unfold atS
  rw [hv, hkey, hstm, hL]
  simp only [Bool.not_true, Bool.or_self, Bool.false_eq_true, if_false]
  have hz : bstF key ts (D.st ++ D.op.flatMap verT) = Ver.zero ↔ (bstF key ts (D.st ++ D.op.flatMap verT)).ts = 0 := by
    constructor
    · intro e; rw [e]; rfl
    · intro e
      rcases bst_spec key ts (D.st ++ D.op.flatMap verT) Ver.zero hpos (.inl rfl) with ⟨e2, _⟩ | ⟨_, _, _, h5, _⟩
      · exact e2
      · exfalso
        have : (Ver.zero).ts = 0 := rfl
        have e' : ((D.st ++ D.op.flatMap verT).foldl (bstG key ts) Ver.zero).ts = 0 := e
        omega
  by_cases hc : (bstF key ts (D.st ++ D.op.flatMap verT)).ts = 0 ∨ (bstF key ts (D.st ++ D.op.flatMap verT)).gone = true
  · rw [if_pos hc, if_pos (hc.imp hz.2 id)]
  · rw [if_neg hc, if_neg (fun h => hc (h.imp hz.1 id))]

set_option maxRecDepth 100000 in
set_option maxHeartbeats 32000000 in
theorem reads_any (L : LdV) (key ts lo hi lo2 hi2 : Int) (w : World) (h : LdW w L) : Calls Try.prog 7 #[.agg #[.int .i64 L.last, .slice L.sa L.st.length L.sc, .slice L.oa L.op.length L.oc], .int .i64 key, .int .i64 ts, .agg #[.int .i64 lo, .int .i64 hi], .agg #[.int .i64 lo2, .int .i64 hi2]] w fun e w' => e = .returned (.bool true) ∧ Below w.heap.size w w' := by
  refine vc_enter (n := 180) Try.func7 rfl rfl rfl (fun a hK => ?_)
  replace hK := hK.weak (K' := [(0, .agg #[.int .i64 L.last, .slice L.sa L.st.length L.sc, .slice L.oa L.op.length L.oc]), (1, .int .i64 key), (2, .int .i64 ts), (3, .agg #[.int .i64 lo, .int .i64 hi]), (4, .agg #[.int .i64 lo2, .int .i64 hi2])]) ⟨rfl, rfl, rfl, rfl, rfl, trivial⟩
  have hE := Ev.start w
  replace hE := hE.dat (p := fun W => LdW W L) (fun W hW => LdW.then_ h hW)
  replace hE := hE.dat (p := fun W => RS TxV.cells W L.oa L.op) (fun W hW => (LdW.then_ h hW).o.row)
  replace hE := hE.dat (p := fun W => RS Ver.cells W L.sa L.st) (fun W hW => (LdW.then_ h hW).s)
  refine wp_seq ?_
  refine wp_region_lit ?_
  refine st_new (d := 5) (v := fun g => .pointer (some ⟨g, 0, none⟩)) (cs := #[.int .i64 L.last, .slice L.sa L.st.length L.sc, .slice L.oa L.op.length L.oc]) (t := 25) hK hE rfl (fun _ _ => by kernel_rfl) rfl rfl ?_
  clear hK hE a; intro a g1 w2 _ _ hK hE
  refine st_new (d := 8) (v := fun g => .pointer (some ⟨g, 0, none⟩)) (cs := #[.int .i64 lo, .int .i64 hi]) (t := 31) hK hE rfl (fun _ _ => by kernel_rfl) rfl rfl ?_
  clear hK hE a; intro a g3 w4 _ _ hK hE
  refine st_new (d := 9) (v := fun g => .pointer (some ⟨g, 0, none⟩)) (cs := #[.int .i64 lo2, .int .i64 hi2]) (t := 31) hK hE rfl (fun _ _ => by kernel_rfl) rfl rfl ?_
  clear hK hE a; intro a g5 w6 _ _ hK hE
  refine st_op (d := 10) (v' := .bool false) (vs := []) (obs := []) hK rfl (fun _ => by kernel_rfl) trivial rfl rfl rfl ?_
  clear hK a; intro a hK
  refine wpList_nil ?_
  refine xt_norm ?_
  refine wp_seq ?_
  refine wp_region_lit ?_
  refine st_call (d := 29) (f := 11) (args := #[]) hK rfl (fun _ => by kernel_rfl) rfl rfl (head34_any _) ?_
  rintro e w7 ⟨rfl, hb⟩
  refine ⟨_, rfl, ?_⟩
  clear hK a; intro a hK
  replace hE := hE.call hb
  clear hb
  refine st_op (d := 11) (v' := .bool true) (vs := []) (obs := []) hK rfl (fun _ => by kernel_rfl) trivial rfl rfl rfl ?_
  clear hK a; intro a hK
  refine wpList_nil ?_
  refine xt_norm ?_
  refine wp_seq ?_
  refine wp_seq ?_
  refine wp_region_lit ?_
  refine st_op (d := 30) (v' := .agg #[.int .i64 L.last, .slice L.sa L.st.length L.sc, .slice L.oa L.op.length L.oc]) (vs := [.int .i64 L.last, .slice L.sa L.st.length L.sc, .slice L.oa L.op.length L.oc]) (obs := [(⟨g1, 0, none⟩, .int .i64 L.last), (⟨g1, 1, none⟩, .slice L.sa L.st.length L.sc), (⟨g1, 2, none⟩, .slice L.oa L.op.length L.oc)]) hK rfl (fun _ => by kernel_rfl) ⟨((hE.blk 2 rfl).cell 0).trans rfl, ((hE.blk 2 rfl).cell 1).trans rfl, ((hE.blk 2 rfl).cell 2).trans rfl, trivial⟩ rfl rfl rfl ?_
  clear hK a; intro a hK
  refine st_call (d := 31) (f := 27) (args := #[.agg #[.int .i64 L.last, .slice L.sa L.st.length L.sc, .slice L.oa L.op.length L.oc]]) hK rfl (fun _ => by kernel_rfl) rfl rfl (usable_any L _ (hE.get 5 rfl)) ?_
  rintro e w8 ⟨rfl, hb⟩
  refine ⟨_, rfl, ?_⟩
  clear hK a; intro a hK
  replace hE := hE.call hb
  clear hb
  refine st_op (d := 32) (v' := .bool (!(fewLB L.d && L.ok))) (vs := []) (obs := []) hK rfl (fun _ => by kernel_rfl) trivial rfl rfl rfl ?_
  clear hK a; intro a hK
  refine st_op (d := 33) (v' := .bool (!(fewLB L.d && L.ok))) (vs := []) (obs := []) hK rfl (fun _ => by kernel_rfl) trivial rfl rfl rfl ?_
  clear hK a; intro a hK
  rcases Bool.eq_false_or_eq_true (fewLB L.d && L.ok) with hc9 | hc9
  · have hus_ := (Bool.and_eq_true _ _).mp hc9
    have hfew := hus_.1; have hok := hus_.2; have hLS := few_S hfew; have hbd := lead_bd hok; clear hus_
    have hfs := few_small hfew
    have hol : L.op.length ≤ 30 := by have := hfs.2.2; rw [show L.d.op.length = L.op.length from txs_len _] at this; exact this
    have hsl60 : L.st.length ≤ 60 := hfs.1
    replace hK := hK.sub (d := 33) (v' := .bool false) rfl (congrArg (fun b => Value.bool !b) hc9)
    refine st_op (d := 34) (v' := .agg #[.int .i64 lo2, .int .i64 hi2]) (vs := [.int .i64 lo2, .int .i64 hi2]) (obs := [(⟨g5, 0, none⟩, .int .i64 lo2), (⟨g5, 1, none⟩, .int .i64 hi2)]) hK rfl (fun _ => by kernel_rfl) ⟨((hE.blk 0 rfl).cell 0).trans rfl, ((hE.blk 0 rfl).cell 1).trans rfl, trivial⟩ rfl rfl rfl ?_
    clear hK a; intro a hK
    refine st_call (d := 35) (f := 29) (args := #[.agg #[.int .i64 lo2, .int .i64 hi2]]) hK rfl (fun _ => by kernel_rfl) rfl rfl (rIv_any lo2 hi2 _) ?_
    rintro e w10 ⟨rfl, hb⟩
    refine ⟨_, rfl, ?_⟩
    clear hK a; intro a hK
    replace hE := hE.call hb
    clear hb
    refine st_op (d := 36) (v' := .bool (!(ivB lo2 hi2))) (vs := []) (obs := []) hK rfl (fun _ => by kernel_rfl) trivial rfl rfl rfl ?_
    clear hK a; intro a hK
    refine st_op (d := 37) (v' := .bool (!(ivB lo2 hi2))) (vs := []) (obs := []) hK rfl (fun _ => by kernel_rfl) trivial rfl rfl rfl ?_
    clear hK a; intro a hK
    refine wpList_nil ?_
    refine xt_norm ?_
    rcases Bool.eq_false_or_eq_true (ivB lo2 hi2) with hc11 | hc11
    · have hiv := hc11
      replace hK := hK.sub (d := 37) (v' := .bool false) rfl (congrArg (fun b => Value.bool !b) hc11)
      refine vc_cond (t := false) hK (fun _ => rfl) ?_
      rw [if_neg (by simp)]
      refine wp_skip ?_
      refine xt_norm ?_
      refine wp_seq ?_
      refine wp_region_lit ?_
      refine st_op (d := 40) (v' := .agg #[.int .i64 L.last, .slice L.sa L.st.length L.sc, .slice L.oa L.op.length L.oc]) (vs := [.int .i64 L.last, .slice L.sa L.st.length L.sc, .slice L.oa L.op.length L.oc]) (obs := [(⟨g1, 0, none⟩, .int .i64 L.last), (⟨g1, 1, none⟩, .slice L.sa L.st.length L.sc), (⟨g1, 2, none⟩, .slice L.oa L.op.length L.oc)]) hK rfl (fun _ => by kernel_rfl) ⟨((hE.blk 2 rfl).cell 0).trans rfl, ((hE.blk 2 rfl).cell 1).trans rfl, ((hE.blk 2 rfl).cell 2).trans rfl, trivial⟩ rfl rfl rfl ?_
      clear hK a; intro a hK
      refine st_op (d := 41) (v' := .agg #[.int .i64 lo2, .int .i64 hi2]) (vs := [.int .i64 lo2, .int .i64 hi2]) (obs := [(⟨g5, 0, none⟩, .int .i64 lo2), (⟨g5, 1, none⟩, .int .i64 hi2)]) hK rfl (fun _ => by kernel_rfl) ⟨((hE.blk 0 rfl).cell 0).trans rfl, ((hE.blk 0 rfl).cell 1).trans rfl, trivial⟩ rfl rfl rfl ?_
      clear hK a; intro a hK
      refine st_call (d := 42) (f := 20) (args := #[.agg #[.int .i64 L.last, .slice L.sa L.st.length L.sc, .slice L.oa L.op.length L.oc], .agg #[.int .i64 lo2, .int .i64 hi2]]) hK rfl (fun _ => by kernel_rfl) rfl rfl (show_any L lo2 hi2 _ hLS (hE.get 5 rfl)) ?_
      rintro e w16 ⟨M12, A13, c14, m15, rfl, hM12, hm12, hl12, ht12, hc12, hk12, hb⟩
      refine ⟨_, rfl, ?_⟩
      clear hK a; intro a hK
      replace hE := hE.call hb
      clear hb
      replace hE := hE.dat (p := fun W => LdW W M12) (fun W hW => LdW.then_ hl12 hW)
      replace hE := hE.dat (p := fun W => TS W A13 m15) (fun W hW => TS.then_ ht12 hW)
      simp only [maxLen] at hk12
      have hsh := show_all (D := L.d) (lo := lo2) (hi := hi2) hok hiv
      have hLSM12 := LdS.shown hLS hsh hM12
      refine st_op (d := 39) (v' := .tuple #[.agg #[.int .i64 M12.last, .slice M12.sa M12.st.length M12.sc, .slice M12.oa M12.op.length M12.oc], .slice A13 m15.length c14, .int .i64 (showS L.d lo2 hi2).2.2]) (vs := []) (obs := []) hK rfl (fun _ => by kernel_rfl) trivial rfl rfl rfl ?_
      clear hK a; intro a hK
      refine st_op (d := 43) (v' := .agg #[.int .i64 M12.last, .slice M12.sa M12.st.length M12.sc, .slice M12.oa M12.op.length M12.oc]) (vs := []) (obs := []) hK rfl (fun _ => by kernel_rfl) trivial rfl rfl rfl ?_
      clear hK a; intro a hK
      refine st_op (d := 44) (v' := .slice A13 m15.length c14) (vs := []) (obs := []) hK rfl (fun _ => by kernel_rfl) trivial rfl rfl rfl ?_
      clear hK a; intro a hK
      refine st_op (d := 45) (v' := .int .i64 (showS L.d lo2 hi2).2.2) (vs := []) (obs := []) hK rfl (fun _ => by kernel_rfl) trivial rfl rfl rfl ?_
      clear hK a; intro a hK
      refine st_new (d := 12) (v := fun g => .pointer (some ⟨g, 0, none⟩)) (cs := #[.int .i64 0, .slice none 0 0, .slice none 0 0]) (t := 25) hK hE rfl (fun _ _ => by kernel_rfl) rfl rfl ?_
      clear hK hE a; intro a g17 w18 _ _ hK hE
      refine st_store2 0 [(0, .int .i64 M12.last), (1, .slice M12.sa M12.st.length M12.sc), (2, .slice M12.oa M12.op.length M12.oc)] hK hE rfl rfl (fun _ => by kernel_rfl) rfl rfl rfl ?_
      clear hE; intro w19 hs_ hk_ hE
      clear hs_ hk_
      refine st_op (d := 13) (v' := .slice A13 m15.length c14) (vs := []) (obs := []) hK rfl (fun _ => by kernel_rfl) trivial rfl rfl rfl ?_
      clear hK a; intro a hK
      refine st_op (d := 14) (v' := .int .i64 (showS L.d lo2 hi2).2.2) (vs := []) (obs := []) hK rfl (fun _ => by kernel_rfl) trivial rfl rfl rfl ?_
      clear hK a; intro a hK
      refine wpList_nil ?_
      refine xt_norm ?_
      refine wp_seq ?_
      refine wp_seq ?_
      refine wp_region_lit ?_
      refine st_op (d := 46) (v' := .int .i64 (showS L.d lo2 hi2).2.2) (vs := []) (obs := []) hK rfl (fun _ => by kernel_rfl) trivial rfl rfl rfl ?_
      clear hK a; intro a hK
      refine st_op (d := 47) (v' := .bool ((showS L.d lo2 hi2).2.2 != 0)) (v := .bool (!((showS L.d lo2 hi2).2.2 == 0))) (vs := []) (obs := []) hK rfl (fun _ => by kernel_rfl) trivial rfl rfl rfl ?_
      clear hK a; intro a hK
      refine wpList_nil ?_
      replace hK := hK.weak (K' := [(1, .int .i64 key), (2, .int .i64 ts), (5, .pointer (some ⟨g1, 0, none⟩)), (8, .pointer (some ⟨g3, 0, none⟩)), (10, .bool false), (11, .bool true), (12, .pointer (some ⟨g17, 0, none⟩)), (47, .bool (!((showS L.d lo2 hi2).2.2 == 0)))]) ⟨rfl, rfl, rfl, rfl, rfl, rfl, rfl, rfl, trivial⟩
      refine xt_norm ?_
      have hd20 : (((showS L.d lo2 hi2).2.2 == 0)) = true := beq_iff_eq.2 hsh
      replace hK := hK.sub (d := 47) (v' := .bool false) rfl (congrArg (fun b => Value.bool !b) hd20)
      refine vc_cond (t := false) hK (fun _ => rfl) ?_
      rw [if_neg (by simp)]
      refine wp_skip ?_
      refine xt_norm ?_
      refine wp_seq ?_
      refine wp_region_lit ?_
      refine st_op (d := 49) (v' := .agg #[.int .i64 M12.last, .slice M12.sa M12.st.length M12.sc, .slice M12.oa M12.op.length M12.oc]) (vs := [.int .i64 M12.last, .slice M12.sa M12.st.length M12.sc, .slice M12.oa M12.op.length M12.oc]) (obs := [(⟨g17, 0, none⟩, .int .i64 M12.last), (⟨g17, 1, none⟩, .slice M12.sa M12.st.length M12.sc), (⟨g17, 2, none⟩, .slice M12.oa M12.op.length M12.oc)]) hK rfl (fun _ => by kernel_rfl) ⟨((hE.blk 0 rfl).cell 0).trans rfl, ((hE.blk 0 rfl).cell 1).trans rfl, ((hE.blk 0 rfl).cell 2).trans rfl, trivial⟩ rfl rfl rfl ?_
      clear hK a; intro a hK
      refine st_op (d := 50) (v' := .int .i64 key) (vs := []) (obs := []) hK rfl (fun _ => by kernel_rfl) trivial rfl rfl rfl ?_
      clear hK a; intro a hK
      refine st_op (d := 51) (v' := .int .i64 ts) (vs := []) (obs := []) hK rfl (fun _ => by kernel_rfl) trivial rfl rfl rfl ?_
      clear hK a; intro a hK
      refine st_op (d := 52) (v' := .agg #[.int .i64 lo, .int .i64 hi]) (vs := [.int .i64 lo, .int .i64 hi]) (obs := [(⟨g3, 0, none⟩, .int .i64 lo), (⟨g3, 1, none⟩, .int .i64 hi)]) hK rfl (fun _ => by kernel_rfl) ⟨((hE.blk 4 rfl).cell 0).trans rfl, ((hE.blk 4 rfl).cell 1).trans rfl, trivial⟩ rfl rfl rfl ?_
      clear hK a; intro a hK
      refine st_call (d := 53) (f := 23) (args := #[.agg #[.int .i64 M12.last, .slice M12.sa M12.st.length M12.sc, .slice M12.oa M12.op.length M12.oc], .int .i64 key, .int .i64 ts, .agg #[.int .i64 lo, .int .i64 hi]]) hK rfl (fun _ => by kernel_rfl) rfl rfl (readL_any M12 key ts lo hi _ hLSM12 (hE.get 2 rfl)) ?_
      rintro e w21 ⟨rfl, hb⟩
      refine ⟨_, rfl, ?_⟩
      clear hK a; intro a hK
      replace hE := hE.call hb
      clear hb
      refine st_op (d := 48) (v' := .tuple #[.agg #[.int .i64 (readLL M12.d key ts lo hi).1.key, .int .i64 (readLL M12.d key ts lo hi).1.ts, .int .i64 (readLL M12.d key ts lo hi).1.value, .bool (readLL M12.d key ts lo hi).1.gone], .bool (readLL M12.d key ts lo hi).2.1, .int .i64 (readLL M12.d key ts lo hi).2.2]) (vs := []) (obs := []) hK rfl (fun _ => by kernel_rfl) trivial rfl rfl rfl ?_
      clear hK a; intro a hK
      refine st_op (d := 54) (v' := .agg #[.int .i64 (readLL M12.d key ts lo hi).1.key, .int .i64 (readLL M12.d key ts lo hi).1.ts, .int .i64 (readLL M12.d key ts lo hi).1.value, .bool (readLL M12.d key ts lo hi).1.gone]) (vs := []) (obs := []) hK rfl (fun _ => by kernel_rfl) trivial rfl rfl rfl ?_
      clear hK a; intro a hK
      refine st_op (d := 55) (v' := .bool (readLL M12.d key ts lo hi).2.1) (vs := []) (obs := []) hK rfl (fun _ => by kernel_rfl) trivial rfl rfl rfl ?_
      clear hK a; intro a hK
      refine st_op (d := 56) (v' := .int .i64 (readLL M12.d key ts lo hi).2.2) (vs := []) (obs := []) hK rfl (fun _ => by kernel_rfl) trivial rfl rfl rfl ?_
      clear hK a; intro a hK
      refine st_new (d := 15) (v := fun g => .pointer (some ⟨g, 0, none⟩)) (cs := #[.int .i64 0, .int .i64 0, .int .i64 0, .bool false]) (t := 44) hK hE rfl (fun _ _ => by kernel_rfl) rfl rfl ?_
      clear hK hE a; intro a g22 w23 _ _ hK hE
      refine st_store2 0 [(0, .int .i64 (readLL M12.d key ts lo hi).1.key), (1, .int .i64 (readLL M12.d key ts lo hi).1.ts), (2, .int .i64 (readLL M12.d key ts lo hi).1.value), (3, .bool (readLL M12.d key ts lo hi).1.gone)] hK hE rfl rfl (fun _ => by kernel_rfl) rfl rfl rfl ?_
      clear hE; intro w24 hs_ hk_ hE
      clear hs_ hk_
      refine st_op (d := 16) (v' := .bool (readLL M12.d key ts lo hi).2.1) (vs := []) (obs := []) hK rfl (fun _ => by kernel_rfl) trivial rfl rfl rfl ?_
      clear hK a; intro a hK
      refine st_op (d := 17) (v' := .int .i64 (readLL M12.d key ts lo hi).2.2) (vs := []) (obs := []) hK rfl (fun _ => by kernel_rfl) trivial rfl rfl rfl ?_
      clear hK a; intro a hK
      refine wpList_nil ?_
      refine xt_norm ?_
      refine wp_seq ?_
      refine wp_seq ?_
      refine wp_region_lit ?_
      refine st_op (d := 57) (v' := .int .i64 (readLL M12.d key ts lo hi).2.2) (vs := []) (obs := []) hK rfl (fun _ => by kernel_rfl) trivial rfl rfl rfl ?_
      clear hK a; intro a hK
      refine st_op (d := 58) (v' := .bool ((readLL M12.d key ts lo hi).2.2 != 0)) (v := .bool (!((readLL M12.d key ts lo hi).2.2 == 0))) (vs := []) (obs := []) hK rfl (fun _ => by kernel_rfl) trivial rfl rfl rfl ?_
      clear hK a; intro a hK
      refine wpList_nil ?_
      refine xt_norm ?_
      rcases Bool.eq_false_or_eq_true (((readLL M12.d key ts lo hi).2.2 == 0)) with hc25 | hc25
      · have hc25p := eq_of_beq hc25
        have hrl := reads_law (D := L.d) (lo := lo2) (hi := hi2) hok hiv (by have h := hc25p; rw [hM12] at h; exact h)
        rw [← hM12] at hrl
        replace hK := hK.sub (d := 58) (v' := .bool false) rfl (congrArg (fun b => Value.bool !b) hc25)
        refine vc_cond (t := false) hK (fun _ => rfl) ?_
        rw [if_neg (by simp)]
        refine wp_skip ?_
        refine xt_norm ?_
        refine wp_seq ?_
        refine wp_region_lit ?_
        refine st_new (d := 18) (v := fun g => .pointer (some ⟨g, 0, none⟩)) (cs := #[.int .i64 0, .int .i64 0, .int .i64 0, .bool false]) (t := 44) hK hE rfl (fun _ _ => by kernel_rfl) rfl rfl ?_
        clear hK hE a; intro a g26 w27 _ _ hK hE
        refine wpList_nil ?_
        refine xt_norm ?_
        refine wp_seq ?_
        refine wp_seq ?_
        refine wp_region_lit ?_
        refine st_op (d := 69) (v' := .pointer (some ⟨g1, 1, none⟩)) (vs := []) (obs := []) hK rfl (fun _ => by kernel_rfl) trivial rfl rfl rfl ?_
        clear hK a; intro a hK
        refine st_op (d := 70) (v' := .slice L.sa L.st.length L.sc) (vs := [.slice L.sa L.st.length L.sc]) (obs := [(⟨g1, 1, none⟩, .slice L.sa L.st.length L.sc)]) hK rfl (fun _ => by kernel_rfl) ⟨((hE.blk 7 rfl).cell 1).trans rfl, trivial⟩ rfl rfl rfl ?_
        clear hK a; intro a hK
        refine st_op (d := 71) (v' := .int .i64 ((L.st.length : Nat) : Int)) (vs := []) (obs := []) hK rfl (fun _ => by kernel_rfl) trivial rfl rfl rfl ?_
        clear hK a; intro a hK
        refine st_op (d := 72) (v' := .int .i64 0) (vs := []) (obs := []) hK rfl (fun _ => by kernel_rfl) trivial rfl rfl rfl ?_
        clear hK a; intro a hK
        refine wpList_nil ?_
        refine xt_norm ?_
        refine wp_block ?_
        refine vc_loop (γ := Nat) (fun k a w_ => Kn 180 [(1, .int .i64 key), (2, .int .i64 ts), (5, .pointer (some ⟨g1, 0, none⟩)), (10, .bool false), (11, .bool true), (12, .pointer (some ⟨g17, 0, none⟩)), (15, .pointer (some ⟨g22, 0, none⟩)), (16, .bool (readLL M12.d key ts lo hi).2.1), (18, .pointer (some ⟨g26, 0, none⟩)), (70, .slice L.sa L.st.length L.sc), (71, .int .i64 ((L.st.length : Nat) : Int)), (72, .int .i64 ((k : Nat) : Int))] a ∧ Ev w w_ [.blk g26 44 #[.int .i64 (bstF key ts (L.st.take k)).key, .int .i64 (bstF key ts (L.st.take k)).ts, .int .i64 (bstF key ts (L.st.take k)).value, .bool (bstF key ts (L.st.take k)).gone], .blk g22 44 #[.int .i64 (readLL M12.d key ts lo hi).1.key, .int .i64 (readLL M12.d key ts lo hi).1.ts, .int .i64 (readLL M12.d key ts lo hi).1.value, .bool (readLL M12.d key ts lo hi).1.gone], .blk g17 25 #[.int .i64 M12.last, .slice M12.sa M12.st.length M12.sc, .slice M12.oa M12.op.length M12.oc], .dat (fun W => TS W A13 m15), .dat (fun W => LdW W M12), .blk g5 31 #[.int .i64 lo2, .int .i64 hi2], .blk g3 31 #[.int .i64 lo, .int .i64 hi], .blk g1 25 #[.int .i64 L.last, .slice L.sa L.st.length L.sc, .slice L.oa L.op.length L.oc], .dat (fun W => RS Ver.cells W L.sa L.st), .dat (fun W => RS TxV.cells W L.oa L.op), .dat (fun W => LdW W L)] ∧ (k ≤ L.st.length) ∧ (True)) (fun k => L.st.length - k) 0 ?_ ?_
        · replace hK := hK.sub (d := 72) (v' := .int .i64 ((0 : Nat) : Int)) rfl (by first | rfl | (congr 1; omega))
          refine ⟨hK.weak ⟨rfl, rfl, rfl, rfl, rfl, rfl, rfl, rfl, rfl, rfl, rfl, rfl, trivial⟩, hE, by omega, trivial⟩
        · clear hK hE a; rintro k a w28 ⟨hK, hE, hf29, -⟩
          refine wp_seq ?_
          refine wp_region_lit ?_
          refine st_op (d := 73) (v' := .bool (decide (((k : Nat) : Int) < ((L.st.length : Nat) : Int)))) (vs := []) (obs := []) hK rfl (fun _ => by kernel_rfl) trivial rfl rfl rfl ?_
          clear hK a; intro a hK
          refine wpList_nil ?_
          refine xt_norm ?_
          refine wp_seq ?_
          rcases Bool.eq_false_or_eq_true (decide (((k : Nat) : Int) < ((L.st.length : Nat) : Int))) with hc30 | hc30
          · have hc30p := of_decide_eq_true hc30
            replace hK := hK.sub (d := 73) (v' := .bool true) rfl (congrArg Value.bool hc30)
            refine vc_cond (t := true) hK (fun _ => rfl) ?_
            rw [if_pos rfl]
            refine wp_skip ?_
            refine xt_norm ?_
            refine wp_seq ?_
            refine wp_block ?_
            refine wp_seq ?_
            refine wp_region_lit ?_
            obtain ⟨x31, hx32⟩ : ∃ x, L.st[k]? = some x := ⟨_, List.getElem?_eq_getElem (by omega)⟩
            obtain ⟨b33, o34, hA35⟩ := row_some (f := Ver.cells) (m := 4) (fun _ => rfl) (hE.get 8 rfl) (by decide) hx32
            replace hE := hE.from_ 8 rfl (p := fun W => ∀ i x, L.st[i]? = some x → Rec W b33 (o34 + i * 4) (Ver.cells x)) (fun W hq => row_recs (fun _ => rfl) (by decide) hA35 hq)
            replace hE := hE.from_ 8 rfl (p := fun W => Rec W b33 (o34 + k * 4) (Ver.cells x31)) (fun W hq => hq _ _ hx32)
            refine st_ix (d := 74) (j := k) (m := 4) hK rfl rfl (fun _ => congrArg (fun A => Value.slice A L.st.length L.sc) hA35) (fun _ => rfl) (by omega) (by have := (List.getElem?_eq_some_iff.1 hx32).1; omega) Try.underlying22 rfl rfl rfl rfl ?_
            clear hK a; intro a hK
            refine st_op (d := 75) (v' := .agg #[.int .i64 x31.key, .int .i64 x31.ts, .int .i64 x31.value, .bool x31.gone]) (vs := [.int .i64 x31.key, .int .i64 x31.ts, .int .i64 x31.value, .bool x31.gone]) (obs := [(⟨b33, o34 + k * 4, none⟩, .int .i64 x31.key), (⟨b33, o34 + k * 4 + 1, none⟩, .int .i64 x31.ts), (⟨b33, o34 + k * 4 + 2, none⟩, .int .i64 x31.value), (⟨b33, o34 + k * 4 + 3, none⟩, .bool x31.gone)]) hK rfl (fun _ => by kernel_rfl) ⟨(hE.get 8 rfl) 0 _ rfl, (hE.get 8 rfl) 1 _ rfl, (hE.get 8 rfl) 2 _ rfl, (hE.get 8 rfl) 3 _ rfl, trivial⟩ rfl rfl rfl ?_
            clear hK a; intro a hK
            refine st_new (d := 20) (v := fun g => .pointer (some ⟨g, 0, none⟩)) (cs := #[.int .i64 0, .int .i64 0, .int .i64 0, .bool false]) (t := 44) hK hE rfl (fun _ _ => by kernel_rfl) rfl rfl ?_
            clear hK hE a; intro a g36 w37 _ _ hK hE
            refine st_store2 0 [(0, .int .i64 x31.key), (1, .int .i64 x31.ts), (2, .int .i64 x31.value), (3, .bool x31.gone)] hK hE rfl rfl (fun _ => by kernel_rfl) rfl rfl rfl ?_
            clear hE; intro w38 hs_ hk_ hE
            clear hs_ hk_
            refine wpList_nil ?_
            refine xt_norm ?_
            refine wp_seq ?_
            refine wp_region_lit ?_
            refine st_op (d := 76) (v' := .pointer (some ⟨g36, 0, none⟩)) (vs := []) (obs := []) hK rfl (fun _ => by kernel_rfl) trivial rfl rfl rfl ?_
            clear hK a; intro a hK
            refine st_op (d := 77) (v' := .int .i64 x31.key) (vs := [.int .i64 x31.key]) (obs := [(⟨g36, 0, none⟩, .int .i64 x31.key)]) hK rfl (fun _ => by kernel_rfl) ⟨((hE.blk 0 rfl).cell 0).trans rfl, trivial⟩ rfl rfl rfl ?_
            clear hK a; intro a hK
            refine st_op (d := 78) (v' := .int .i64 key) (vs := []) (obs := []) hK rfl (fun _ => by kernel_rfl) trivial rfl rfl rfl ?_
            clear hK a; intro a hK
            refine st_op (d := 79) (v' := .bool (x31.key == key)) (vs := []) (obs := []) hK rfl (fun _ => by kernel_rfl) trivial rfl rfl rfl ?_
            clear hK a; intro a hK
            refine st_op (d := 80) (v' := .bool (x31.key == key)) (vs := []) (obs := []) hK rfl (fun _ => by kernel_rfl) trivial rfl rfl rfl ?_
            clear hK a; intro a hK
            rcases Bool.eq_false_or_eq_true ((x31.key == key)) with hc39 | hc39
            · have hc39p := eq_of_beq hc39
              replace hK := hK.sub (d := 80) (v' := .bool true) rfl (congrArg Value.bool hc39)
              refine st_op (d := 81) (v' := .pointer (some ⟨g36, 1, none⟩)) (vs := []) (obs := []) hK rfl (fun _ => by kernel_rfl) trivial rfl rfl rfl ?_
              clear hK a; intro a hK
              refine st_op (d := 82) (v' := .int .i64 x31.ts) (vs := [.int .i64 x31.ts]) (obs := [(⟨g36, 1, none⟩, .int .i64 x31.ts)]) hK rfl (fun _ => by kernel_rfl) ⟨((hE.blk 0 rfl).cell 1).trans rfl, trivial⟩ rfl rfl rfl ?_
              clear hK a; intro a hK
              refine st_op (d := 83) (v' := .int .i64 ts) (vs := []) (obs := []) hK rfl (fun _ => by kernel_rfl) trivial rfl rfl rfl ?_
              clear hK a; intro a hK
              refine st_op (d := 84) (v' := .bool (decide (x31.ts ≤ ts))) (vs := []) (obs := []) hK rfl (fun _ => by kernel_rfl) trivial rfl rfl rfl ?_
              clear hK a; intro a hK
              refine st_op (d := 85) (v' := .bool (decide (x31.ts ≤ ts))) (vs := []) (obs := []) hK rfl (fun _ => by kernel_rfl) trivial rfl rfl rfl ?_
              clear hK a; intro a hK
              refine st_op (d := 86) (v' := .bool (decide (x31.ts ≤ ts))) (vs := []) (obs := []) hK rfl (fun _ => by kernel_rfl) trivial rfl rfl rfl ?_
              clear hK a; intro a hK
              rcases Bool.eq_false_or_eq_true (decide (x31.ts ≤ ts)) with hc40 | hc40
              · have hc40p := of_decide_eq_true hc40
                replace hK := hK.sub (d := 86) (v' := .bool true) rfl (congrArg Value.bool hc40)
                refine st_op (d := 87) (v' := .pointer (some ⟨g36, 1, none⟩)) (vs := []) (obs := []) hK rfl (fun _ => by kernel_rfl) trivial rfl rfl rfl ?_
                clear hK a; intro a hK
                refine st_op (d := 88) (v' := .int .i64 x31.ts) (vs := [.int .i64 x31.ts]) (obs := [(⟨g36, 1, none⟩, .int .i64 x31.ts)]) hK rfl (fun _ => by kernel_rfl) ⟨((hE.blk 0 rfl).cell 1).trans rfl, trivial⟩ rfl rfl rfl ?_
                clear hK a; intro a hK
                refine st_op (d := 89) (v' := .pointer (some ⟨g26, 1, none⟩)) (vs := []) (obs := []) hK rfl (fun _ => by kernel_rfl) trivial rfl rfl rfl ?_
                clear hK a; intro a hK
                refine st_op (d := 90) (v' := .int .i64 (bstF key ts (L.st.take k)).ts) (vs := [.int .i64 (bstF key ts (L.st.take k)).ts]) (obs := [(⟨g26, 1, none⟩, .int .i64 (bstF key ts (L.st.take k)).ts)]) hK rfl (fun _ => by kernel_rfl) ⟨((hE.blk 1 rfl).cell 1).trans rfl, trivial⟩ rfl rfl rfl ?_
                clear hK a; intro a hK
                refine st_op (d := 91) (v' := .bool (decide (x31.ts > (bstF key ts (L.st.take k)).ts))) (vs := []) (obs := []) hK rfl (fun _ => by kernel_rfl) trivial rfl rfl rfl ?_
                clear hK a; intro a hK
                refine st_op (d := 92) (v' := .bool (decide (x31.ts > (bstF key ts (L.st.take k)).ts))) (vs := []) (obs := []) hK rfl (fun _ => by kernel_rfl) trivial rfl rfl rfl ?_
                clear hK a; intro a hK
                refine wpList_nil ?_
                replace hK := hK.weak (K' := [(1, .int .i64 key), (2, .int .i64 ts), (5, .pointer (some ⟨g1, 0, none⟩)), (10, .bool false), (11, .bool true), (12, .pointer (some ⟨g17, 0, none⟩)), (15, .pointer (some ⟨g22, 0, none⟩)), (16, .bool (readLL M12.d key ts lo hi).2.1), (18, .pointer (some ⟨g26, 0, none⟩)), (70, .slice L.sa L.st.length L.sc), (71, .int .i64 ((L.st.length : Nat) : Int)), (72, .int .i64 ((k : Nat) : Int)), (73, .bool true), (74, .pointer (some ⟨b33, o34 + k * 4, none⟩)), (75, .agg #[.int .i64 x31.key, .int .i64 x31.ts, .int .i64 x31.value, .bool x31.gone]), (20, .pointer (some ⟨g36, 0, none⟩)), (76, .pointer (some ⟨g36, 0, none⟩)), (77, .int .i64 x31.key), (78, .int .i64 key), (79, .bool (x31.key == key)), (80, .bool true), (81, .pointer (some ⟨g36, 1, none⟩)), (82, .int .i64 x31.ts), (83, .int .i64 ts), (84, .bool (decide (x31.ts ≤ ts))), (85, .bool (decide (x31.ts ≤ ts))), (86, .bool true), (87, .pointer (some ⟨g36, 1, none⟩)), (88, .int .i64 x31.ts), (89, .pointer (some ⟨g26, 1, none⟩)), (90, .int .i64 (bstF key ts (L.st.take k)).ts), (91, .bool (decide (x31.ts > (bstF key ts (L.st.take k)).ts))), (92, .bool (decide (x31.ts > (bstF key ts (L.st.take k)).ts)))]) ⟨rfl, rfl, rfl, rfl, rfl, rfl, rfl, rfl, rfl, rfl, rfl, rfl, rfl, rfl, rfl, rfl, rfl, rfl, rfl, rfl, rfl, rfl, rfl, rfl, rfl, rfl, rfl, rfl, rfl, rfl, rfl, rfl, rfl, trivial⟩
                refine xt_norm ?_
                rcases Bool.eq_false_or_eq_true (decide (x31.ts > (bstF key ts (L.st.take k)).ts)) with hc41 | hc41
                · have hc41p := of_decide_eq_true hc41
                  replace hK := hK.sub (d := 92) (v' := .bool true) rfl (congrArg Value.bool hc41)
                  refine vc_cond (t := true) hK (fun _ => rfl) ?_
                  rw [if_pos rfl]
                  refine wp_region_lit ?_
                  refine st_op (d := 93) (v' := .agg #[.int .i64 x31.key, .int .i64 x31.ts, .int .i64 x31.value, .bool x31.gone]) (vs := [.int .i64 x31.key, .int .i64 x31.ts, .int .i64 x31.value, .bool x31.gone]) (obs := [(⟨g36, 0, none⟩, .int .i64 x31.key), (⟨g36, 1, none⟩, .int .i64 x31.ts), (⟨g36, 2, none⟩, .int .i64 x31.value), (⟨g36, 3, none⟩, .bool x31.gone)]) hK rfl (fun _ => by kernel_rfl) ⟨((hE.blk 0 rfl).cell 0).trans rfl, ((hE.blk 0 rfl).cell 1).trans rfl, ((hE.blk 0 rfl).cell 2).trans rfl, ((hE.blk 0 rfl).cell 3).trans rfl, trivial⟩ rfl rfl rfl ?_
                  clear hK a; intro a hK
                  refine st_store2 1 [(0, .int .i64 x31.key), (1, .int .i64 x31.ts), (2, .int .i64 x31.value), (3, .bool x31.gone)] hK hE rfl rfl (fun _ => by kernel_rfl) rfl rfl rfl ?_
                  clear hE; intro w42 hs_ hk_ hE
                  clear hs_ hk_
                  refine wpList_nil ?_
                  replace hK := hK.weak (K' := [(1, .int .i64 key), (2, .int .i64 ts), (5, .pointer (some ⟨g1, 0, none⟩)), (10, .bool false), (11, .bool true), (12, .pointer (some ⟨g17, 0, none⟩)), (15, .pointer (some ⟨g22, 0, none⟩)), (16, .bool (readLL M12.d key ts lo hi).2.1), (18, .pointer (some ⟨g26, 0, none⟩)), (70, .slice L.sa L.st.length L.sc), (71, .int .i64 ((L.st.length : Nat) : Int)), (72, .int .i64 ((k : Nat) : Int)), (73, .bool true), (74, .pointer (some ⟨b33, o34 + k * 4, none⟩)), (75, .agg #[.int .i64 x31.key, .int .i64 x31.ts, .int .i64 x31.value, .bool x31.gone]), (20, .pointer (some ⟨g36, 0, none⟩)), (76, .pointer (some ⟨g36, 0, none⟩)), (77, .int .i64 x31.key), (78, .int .i64 key), (79, .bool (x31.key == key)), (80, .bool true), (81, .pointer (some ⟨g36, 1, none⟩)), (82, .int .i64 x31.ts), (83, .int .i64 ts), (84, .bool (decide (x31.ts ≤ ts))), (85, .bool (decide (x31.ts ≤ ts))), (86, .bool true), (87, .pointer (some ⟨g36, 1, none⟩)), (88, .int .i64 x31.ts), (89, .pointer (some ⟨g26, 1, none⟩)), (90, .int .i64 (bstF key ts (L.st.take k)).ts), (91, .bool (decide (x31.ts > (bstF key ts (L.st.take k)).ts))), (92, .bool true), (93, .agg #[.int .i64 x31.key, .int .i64 x31.ts, .int .i64 x31.value, .bool x31.gone])]) ⟨rfl, rfl, rfl, rfl, rfl, rfl, rfl, rfl, rfl, rfl, rfl, rfl, rfl, rfl, rfl, rfl, rfl, rfl, rfl, rfl, rfl, rfl, rfl, rfl, rfl, rfl, rfl, rfl, rfl, rfl, rfl, rfl, rfl, rfl, trivial⟩
                  refine xb_norm ?_
                  refine xt_norm ?_
                  refine wp_region_lit ?_
                  refine st_op (d := 94) (v' := .int .i64 (IntKind.i64.wrap (((k : Nat) : Int) + 1))) (v := .int .i64 (((k : Nat) : Int) + 1)) (vs := []) (obs := []) hK rfl (fun _ => by kernel_rfl) trivial (congrArg (Value.int .i64) (IntWalk.i64_in _ (by omega))) rfl rfl ?_
                  clear hK a; intro a hK
                  refine st_op (d := 72) (v' := .int .i64 (((k : Nat) : Int) + 1)) (vs := []) (obs := []) hK rfl (fun _ => by kernel_rfl) trivial rfl rfl rfl ?_
                  clear hK a; intro a hK
                  refine wpList_nil ?_
                  replace hK := hK.weak (K' := [(1, .int .i64 key), (2, .int .i64 ts), (5, .pointer (some ⟨g1, 0, none⟩)), (10, .bool false), (11, .bool true), (12, .pointer (some ⟨g17, 0, none⟩)), (15, .pointer (some ⟨g22, 0, none⟩)), (16, .bool (readLL M12.d key ts lo hi).2.1), (18, .pointer (some ⟨g26, 0, none⟩)), (70, .slice L.sa L.st.length L.sc), (71, .int .i64 ((L.st.length : Nat) : Int)), (72, .int .i64 (((k : Nat) : Int) + 1)), (73, .bool true), (74, .pointer (some ⟨b33, o34 + k * 4, none⟩)), (75, .agg #[.int .i64 x31.key, .int .i64 x31.ts, .int .i64 x31.value, .bool x31.gone]), (20, .pointer (some ⟨g36, 0, none⟩)), (76, .pointer (some ⟨g36, 0, none⟩)), (77, .int .i64 x31.key), (78, .int .i64 key), (79, .bool (x31.key == key)), (80, .bool true), (81, .pointer (some ⟨g36, 1, none⟩)), (82, .int .i64 x31.ts), (83, .int .i64 ts), (84, .bool (decide (x31.ts ≤ ts))), (85, .bool (decide (x31.ts ≤ ts))), (86, .bool true), (87, .pointer (some ⟨g36, 1, none⟩)), (88, .int .i64 x31.ts), (89, .pointer (some ⟨g26, 1, none⟩)), (90, .int .i64 (bstF key ts (L.st.take k)).ts), (91, .bool (decide (x31.ts > (bstF key ts (L.st.take k)).ts))), (92, .bool true), (93, .agg #[.int .i64 x31.key, .int .i64 x31.ts, .int .i64 x31.value, .bool x31.gone]), (94, .int .i64 (((k : Nat) : Int) + 1))]) ⟨rfl, rfl, rfl, rfl, rfl, rfl, rfl, rfl, rfl, rfl, rfl, rfl, rfl, rfl, rfl, rfl, rfl, rfl, rfl, rfl, rfl, rfl, rfl, rfl, rfl, rfl, rfl, rfl, rfl, rfl, rfl, rfl, rfl, rfl, rfl, trivial⟩
                  refine xt_norm ?_
                  replace hK := hK.sub (d := 72) (v' := .int .i64 (((k + 1) : Nat) : Int)) rfl (by first | rfl | (congr 1; omega))
                  have hb := bst_take key ts hx32
                  rw [bst_hit (by omega)] at hb
                  refine ⟨k + 1, ⟨hK.weak ⟨rfl, rfl, rfl, rfl, rfl, rfl, rfl, rfl, rfl, rfl, rfl, rfl, trivial⟩, (by rw [hb]; exact hE.drop (.cons _ (.cons_cons _ (.cons_cons _ (.cons_cons _ (.cons_cons _ (.cons_cons _ (.cons_cons _ (.cons_cons _ (.cons_cons _ (.cons _ (.cons _ (.cons_cons _ (.cons_cons _ (.cons_cons _ .slnil))))))))))))))), by omega, trivial⟩, by omega⟩
                · have hc41p := of_decide_eq_false hc41
                  replace hK := hK.sub (d := 92) (v' := .bool false) rfl (congrArg Value.bool hc41)
                  refine vc_cond (t := false) hK (fun _ => rfl) ?_
                  rw [if_neg (by simp)]
                  refine wp_skip ?_
                  refine xb_norm ?_
                  refine xt_norm ?_
                  refine wp_region_lit ?_
                  refine st_op (d := 94) (v' := .int .i64 (IntKind.i64.wrap (((k : Nat) : Int) + 1))) (v := .int .i64 (((k : Nat) : Int) + 1)) (vs := []) (obs := []) hK rfl (fun _ => by kernel_rfl) trivial (congrArg (Value.int .i64) (IntWalk.i64_in _ (by omega))) rfl rfl ?_
                  clear hK a; intro a hK
                  refine st_op (d := 72) (v' := .int .i64 (((k : Nat) : Int) + 1)) (vs := []) (obs := []) hK rfl (fun _ => by kernel_rfl) trivial rfl rfl rfl ?_
                  clear hK a; intro a hK
                  refine wpList_nil ?_
                  replace hK := hK.weak (K' := [(1, .int .i64 key), (2, .int .i64 ts), (5, .pointer (some ⟨g1, 0, none⟩)), (10, .bool false), (11, .bool true), (12, .pointer (some ⟨g17, 0, none⟩)), (15, .pointer (some ⟨g22, 0, none⟩)), (16, .bool (readLL M12.d key ts lo hi).2.1), (18, .pointer (some ⟨g26, 0, none⟩)), (70, .slice L.sa L.st.length L.sc), (71, .int .i64 ((L.st.length : Nat) : Int)), (72, .int .i64 (((k : Nat) : Int) + 1)), (73, .bool true), (74, .pointer (some ⟨b33, o34 + k * 4, none⟩)), (75, .agg #[.int .i64 x31.key, .int .i64 x31.ts, .int .i64 x31.value, .bool x31.gone]), (20, .pointer (some ⟨g36, 0, none⟩)), (76, .pointer (some ⟨g36, 0, none⟩)), (77, .int .i64 x31.key), (78, .int .i64 key), (79, .bool (x31.key == key)), (80, .bool true), (81, .pointer (some ⟨g36, 1, none⟩)), (82, .int .i64 x31.ts), (83, .int .i64 ts), (84, .bool (decide (x31.ts ≤ ts))), (85, .bool (decide (x31.ts ≤ ts))), (86, .bool true), (87, .pointer (some ⟨g36, 1, none⟩)), (88, .int .i64 x31.ts), (89, .pointer (some ⟨g26, 1, none⟩)), (90, .int .i64 (bstF key ts (L.st.take k)).ts), (91, .bool (decide (x31.ts > (bstF key ts (L.st.take k)).ts))), (92, .bool false), (94, .int .i64 (((k : Nat) : Int) + 1))]) ⟨rfl, rfl, rfl, rfl, rfl, rfl, rfl, rfl, rfl, rfl, rfl, rfl, rfl, rfl, rfl, rfl, rfl, rfl, rfl, rfl, rfl, rfl, rfl, rfl, rfl, rfl, rfl, rfl, rfl, rfl, rfl, rfl, rfl, rfl, trivial⟩
                  refine xt_norm ?_
                  replace hK := hK.sub (d := 72) (v' := .int .i64 (((k + 1) : Nat) : Int)) rfl (by first | rfl | (congr 1; omega))
                  have hb := bst_take key ts hx32
                  rw [bst_miss (by omega)] at hb
                  refine ⟨k + 1, ⟨hK.weak ⟨rfl, rfl, rfl, rfl, rfl, rfl, rfl, rfl, rfl, rfl, rfl, rfl, trivial⟩, (by rw [hb]; exact hE.drop (.cons _ (.cons_cons _ (.cons_cons _ (.cons_cons _ (.cons_cons _ (.cons_cons _ (.cons_cons _ (.cons_cons _ (.cons_cons _ (.cons _ (.cons _ (.cons_cons _ (.cons_cons _ (.cons_cons _ .slnil))))))))))))))), by omega, trivial⟩, by omega⟩
              · have hc40p := of_decide_eq_false hc40
                replace hK := hK.sub (d := 86) (v' := .bool false) rfl (congrArg Value.bool hc40)
                refine st_skip (d := 87) hK rfl rfl rfl ?_
                clear hK a; intro a hK
                refine st_skip (d := 88) hK rfl rfl rfl ?_
                clear hK a; intro a hK
                refine st_skip (d := 89) hK rfl rfl rfl ?_
                clear hK a; intro a hK
                refine st_skip (d := 90) hK rfl rfl rfl ?_
                clear hK a; intro a hK
                refine st_skip (d := 91) hK rfl rfl rfl ?_
                clear hK a; intro a hK
                refine st_op (d := 92) (v' := .bool false) (vs := []) (obs := []) hK rfl (fun _ => by kernel_rfl) trivial rfl rfl rfl ?_
                clear hK a; intro a hK
                refine wpList_nil ?_
                replace hK := hK.weak (K' := [(1, .int .i64 key), (2, .int .i64 ts), (5, .pointer (some ⟨g1, 0, none⟩)), (10, .bool false), (11, .bool true), (12, .pointer (some ⟨g17, 0, none⟩)), (15, .pointer (some ⟨g22, 0, none⟩)), (16, .bool (readLL M12.d key ts lo hi).2.1), (18, .pointer (some ⟨g26, 0, none⟩)), (70, .slice L.sa L.st.length L.sc), (71, .int .i64 ((L.st.length : Nat) : Int)), (72, .int .i64 ((k : Nat) : Int)), (73, .bool true), (74, .pointer (some ⟨b33, o34 + k * 4, none⟩)), (75, .agg #[.int .i64 x31.key, .int .i64 x31.ts, .int .i64 x31.value, .bool x31.gone]), (20, .pointer (some ⟨g36, 0, none⟩)), (76, .pointer (some ⟨g36, 0, none⟩)), (77, .int .i64 x31.key), (78, .int .i64 key), (79, .bool (x31.key == key)), (80, .bool true), (81, .pointer (some ⟨g36, 1, none⟩)), (82, .int .i64 x31.ts), (83, .int .i64 ts), (84, .bool (decide (x31.ts ≤ ts))), (85, .bool (decide (x31.ts ≤ ts))), (86, .bool false), (92, .bool false)]) ⟨rfl, rfl, rfl, rfl, rfl, rfl, rfl, rfl, rfl, rfl, rfl, rfl, rfl, rfl, rfl, rfl, rfl, rfl, rfl, rfl, rfl, rfl, rfl, rfl, rfl, rfl, rfl, rfl, trivial⟩
                refine xt_norm ?_
                refine vc_cond (t := false) hK (fun _ => rfl) ?_
                rw [if_neg (by simp)]
                refine wp_skip ?_
                refine xb_norm ?_
                refine xt_norm ?_
                refine wp_region_lit ?_
                refine st_op (d := 94) (v' := .int .i64 (IntKind.i64.wrap (((k : Nat) : Int) + 1))) (v := .int .i64 (((k : Nat) : Int) + 1)) (vs := []) (obs := []) hK rfl (fun _ => by kernel_rfl) trivial (congrArg (Value.int .i64) (IntWalk.i64_in _ (by omega))) rfl rfl ?_
                clear hK a; intro a hK
                refine st_op (d := 72) (v' := .int .i64 (((k : Nat) : Int) + 1)) (vs := []) (obs := []) hK rfl (fun _ => by kernel_rfl) trivial rfl rfl rfl ?_
                clear hK a; intro a hK
                refine wpList_nil ?_
                refine xt_norm ?_
                replace hK := hK.sub (d := 72) (v' := .int .i64 (((k + 1) : Nat) : Int)) rfl (by first | rfl | (congr 1; omega))
                have hb := bst_take key ts hx32
                rw [bst_miss (by omega)] at hb
                refine ⟨k + 1, ⟨hK.weak ⟨rfl, rfl, rfl, rfl, rfl, rfl, rfl, rfl, rfl, rfl, rfl, rfl, trivial⟩, (by rw [hb]; exact hE.drop (.cons _ (.cons_cons _ (.cons_cons _ (.cons_cons _ (.cons_cons _ (.cons_cons _ (.cons_cons _ (.cons_cons _ (.cons_cons _ (.cons _ (.cons _ (.cons_cons _ (.cons_cons _ (.cons_cons _ .slnil))))))))))))))), by omega, trivial⟩, by omega⟩
            · have hc39p := ne_of_beq_false hc39
              replace hK := hK.sub (d := 80) (v' := .bool false) rfl (congrArg Value.bool hc39)
              refine st_skip (d := 81) hK rfl rfl rfl ?_
              clear hK a; intro a hK
              refine st_skip (d := 82) hK rfl rfl rfl ?_
              clear hK a; intro a hK
              refine st_skip (d := 83) hK rfl rfl rfl ?_
              clear hK a; intro a hK
              refine st_skip (d := 84) hK rfl rfl rfl ?_
              clear hK a; intro a hK
              refine st_op (d := 85) (v' := .bool false) (vs := []) (obs := []) hK rfl (fun _ => by kernel_rfl) trivial rfl rfl rfl ?_
              clear hK a; intro a hK
              refine st_op (d := 86) (v' := .bool false) (vs := []) (obs := []) hK rfl (fun _ => by kernel_rfl) trivial rfl rfl rfl ?_
              clear hK a; intro a hK
              refine st_skip (d := 87) hK rfl rfl rfl ?_
              clear hK a; intro a hK
              refine st_skip (d := 88) hK rfl rfl rfl ?_
              clear hK a; intro a hK
              refine st_skip (d := 89) hK rfl rfl rfl ?_
              clear hK a; intro a hK
              refine st_skip (d := 90) hK rfl rfl rfl ?_
              clear hK a; intro a hK
              refine st_skip (d := 91) hK rfl rfl rfl ?_
              clear hK a; intro a hK
              refine st_op (d := 92) (v' := .bool false) (vs := []) (obs := []) hK rfl (fun _ => by kernel_rfl) trivial rfl rfl rfl ?_
              clear hK a; intro a hK
              refine wpList_nil ?_
              replace hK := hK.weak (K' := [(1, .int .i64 key), (2, .int .i64 ts), (5, .pointer (some ⟨g1, 0, none⟩)), (10, .bool false), (11, .bool true), (12, .pointer (some ⟨g17, 0, none⟩)), (15, .pointer (some ⟨g22, 0, none⟩)), (16, .bool (readLL M12.d key ts lo hi).2.1), (18, .pointer (some ⟨g26, 0, none⟩)), (70, .slice L.sa L.st.length L.sc), (71, .int .i64 ((L.st.length : Nat) : Int)), (72, .int .i64 ((k : Nat) : Int)), (73, .bool true), (74, .pointer (some ⟨b33, o34 + k * 4, none⟩)), (75, .agg #[.int .i64 x31.key, .int .i64 x31.ts, .int .i64 x31.value, .bool x31.gone]), (20, .pointer (some ⟨g36, 0, none⟩)), (76, .pointer (some ⟨g36, 0, none⟩)), (77, .int .i64 x31.key), (78, .int .i64 key), (79, .bool (x31.key == key)), (80, .bool false), (85, .bool false), (86, .bool false), (92, .bool false)]) ⟨rfl, rfl, rfl, rfl, rfl, rfl, rfl, rfl, rfl, rfl, rfl, rfl, rfl, rfl, rfl, rfl, rfl, rfl, rfl, rfl, rfl, rfl, rfl, rfl, trivial⟩
              refine xt_norm ?_
              refine vc_cond (t := false) hK (fun _ => rfl) ?_
              rw [if_neg (by simp)]
              refine wp_skip ?_
              refine xb_norm ?_
              refine xt_norm ?_
              refine wp_region_lit ?_
              refine st_op (d := 94) (v' := .int .i64 (IntKind.i64.wrap (((k : Nat) : Int) + 1))) (v := .int .i64 (((k : Nat) : Int) + 1)) (vs := []) (obs := []) hK rfl (fun _ => by kernel_rfl) trivial (congrArg (Value.int .i64) (IntWalk.i64_in _ (by omega))) rfl rfl ?_
              clear hK a; intro a hK
              refine st_op (d := 72) (v' := .int .i64 (((k : Nat) : Int) + 1)) (vs := []) (obs := []) hK rfl (fun _ => by kernel_rfl) trivial rfl rfl rfl ?_
              clear hK a; intro a hK
              refine wpList_nil ?_
              refine xt_norm ?_
              replace hK := hK.sub (d := 72) (v' := .int .i64 (((k + 1) : Nat) : Int)) rfl (by first | rfl | (congr 1; omega))
              have hb := bst_take key ts hx32
              rw [bst_miss (by omega)] at hb
              refine ⟨k + 1, ⟨hK.weak ⟨rfl, rfl, rfl, rfl, rfl, rfl, rfl, rfl, rfl, rfl, rfl, rfl, trivial⟩, (by rw [hb]; exact hE.drop (.cons _ (.cons_cons _ (.cons_cons _ (.cons_cons _ (.cons_cons _ (.cons_cons _ (.cons_cons _ (.cons_cons _ (.cons_cons _ (.cons _ (.cons _ (.cons_cons _ (.cons_cons _ (.cons_cons _ .slnil))))))))))))))), by omega, trivial⟩, by omega⟩
          · have hc30p := of_decide_eq_false hc30
            replace hK := hK.sub (d := 73) (v' := .bool false) rfl (congrArg Value.bool hc30)
            refine vc_cond (t := false) hK (fun _ => rfl) ?_
            rw [if_neg (by simp)]
            refine wp_exit ?_
            refine xt_exit ?_
            refine xt_exit ?_
            refine xb_hit ?_
            refine xt_norm ?_
            refine wp_seq ?_
            refine wp_seq ?_
            refine wp_region_lit ?_
            refine st_op (d := 95) (v' := .pointer (some ⟨g1, 2, none⟩)) (vs := []) (obs := []) hK rfl (fun _ => by kernel_rfl) trivial rfl rfl rfl ?_
            clear hK a; intro a hK
            refine st_op (d := 96) (v' := .slice L.oa L.op.length L.oc) (vs := [.slice L.oa L.op.length L.oc]) (obs := [(⟨g1, 2, none⟩, .slice L.oa L.op.length L.oc)]) hK rfl (fun _ => by kernel_rfl) ⟨((hE.blk 7 rfl).cell 2).trans rfl, trivial⟩ rfl rfl rfl ?_
            clear hK a; intro a hK
            refine st_op (d := 97) (v' := .int .i64 ((L.op.length : Nat) : Int)) (vs := []) (obs := []) hK rfl (fun _ => by kernel_rfl) trivial rfl rfl rfl ?_
            clear hK a; intro a hK
            refine st_op (d := 98) (v' := .int .i64 0) (vs := []) (obs := []) hK rfl (fun _ => by kernel_rfl) trivial rfl rfl rfl ?_
            clear hK a; intro a hK
            refine wpList_nil ?_
            refine xt_norm ?_
            refine wp_block ?_
            refine vc_loop (γ := Nat) (fun j a w_ => Kn 180 [(1, .int .i64 key), (2, .int .i64 ts), (10, .bool false), (11, .bool true), (12, .pointer (some ⟨g17, 0, none⟩)), (15, .pointer (some ⟨g22, 0, none⟩)), (16, .bool (readLL M12.d key ts lo hi).2.1), (18, .pointer (some ⟨g26, 0, none⟩)), (96, .slice L.oa L.op.length L.oc), (97, .int .i64 ((L.op.length : Nat) : Int)), (98, .int .i64 ((j : Nat) : Int))] a ∧ Ev w w_ [.blk g26 44 #[.int .i64 (bstF key ts (L.st ++ ((txs L.op).take j).flatMap verT)).key, .int .i64 (bstF key ts (L.st ++ ((txs L.op).take j).flatMap verT)).ts, .int .i64 (bstF key ts (L.st ++ ((txs L.op).take j).flatMap verT)).value, .bool (bstF key ts (L.st ++ ((txs L.op).take j).flatMap verT)).gone], .blk g22 44 #[.int .i64 (readLL M12.d key ts lo hi).1.key, .int .i64 (readLL M12.d key ts lo hi).1.ts, .int .i64 (readLL M12.d key ts lo hi).1.value, .bool (readLL M12.d key ts lo hi).1.gone], .blk g17 25 #[.int .i64 M12.last, .slice M12.sa M12.st.length M12.sc, .slice M12.oa M12.op.length M12.oc], .dat (fun W => TS W A13 m15), .dat (fun W => LdW W M12), .blk g5 31 #[.int .i64 lo2, .int .i64 hi2], .blk g3 31 #[.int .i64 lo, .int .i64 hi], .blk g1 25 #[.int .i64 L.last, .slice L.sa L.st.length L.sc, .slice L.oa L.op.length L.oc], .dat (fun W => RS Ver.cells W L.sa L.st), .dat (fun W => RS TxV.cells W L.oa L.op), .dat (fun W => LdW W L)] ∧ (j ≤ L.op.length) ∧ (True)) (fun j => L.op.length - j) 0 ?_ ?_
            · replace hK := hK.sub (d := 98) (v' := .int .i64 ((0 : Nat) : Int)) rfl (by first | rfl | (congr 1; omega))
              refine ⟨hK.weak ⟨rfl, rfl, rfl, rfl, rfl, rfl, rfl, rfl, rfl, rfl, rfl, trivial⟩, (by rw [show bstF key ts (L.st ++ ((txs L.op).take 0).flatMap verT) = bstF key ts (L.st.take k) from by rw [List.take_of_length_le (l := L.st) (by omega)]; simp]; exact hE), by omega, trivial⟩
            · clear hK hE a; rintro j a w43 ⟨hK, hE, hf44, -⟩
              refine wp_seq ?_
              refine wp_region_lit ?_
              refine st_op (d := 99) (v' := .bool (decide (((j : Nat) : Int) < ((L.op.length : Nat) : Int)))) (vs := []) (obs := []) hK rfl (fun _ => by kernel_rfl) trivial rfl rfl rfl ?_
              clear hK a; intro a hK
              refine wpList_nil ?_
              refine xt_norm ?_
              refine wp_seq ?_
              rcases Bool.eq_false_or_eq_true (decide (((j : Nat) : Int) < ((L.op.length : Nat) : Int))) with hc45 | hc45
              · have hc45p := of_decide_eq_true hc45
                replace hK := hK.sub (d := 99) (v' := .bool true) rfl (congrArg Value.bool hc45)
                refine vc_cond (t := true) hK (fun _ => rfl) ?_
                rw [if_pos rfl]
                refine wp_skip ?_
                refine xt_norm ?_
                refine wp_seq ?_
                refine wp_block ?_
                refine wp_seq ?_
                refine wp_region_lit ?_
                obtain ⟨x46, hx47⟩ : ∃ x, L.op[j]? = some x := ⟨_, List.getElem?_eq_getElem (by omega)⟩
                obtain ⟨b48, o49, hA50⟩ := row_some (f := TxV.cells) (m := 4) TxV.len (hE.get 9 rfl) (by decide) hx47
                replace hE := hE.from_ 9 rfl (p := fun W => ∀ i x, L.op[i]? = some x → Rec W b48 (o49 + i * 4) (TxV.cells x)) (fun W hq => row_recs TxV.len (by decide) hA50 hq)
                replace hE := hE.from_ 9 rfl (p := fun W => Rec W b48 (o49 + j * 4) (TxV.cells x46)) (fun W hq => hq _ _ hx47)
                replace hE := hE.from_ 12 rfl (p := fun W => RS Wr.cells W x46.wa x46.t.writes) (fun W hq => ((LdW.o hq).each _ (List.mem_of_getElem? hx47)).s)
                have hwl := (LdW.o (hE.get 13 rfl)).each _ (List.mem_of_getElem? hx47)
                have hw1 := hwl.wl; have hw2 := hwl.wm; simp only [maxLen] at hw2; clear hwl
                refine st_ix (d := 100) (j := j) (m := 4) hK rfl rfl (fun _ => congrArg (fun A => Value.slice A L.op.length L.oc) hA50) (fun _ => rfl) (by omega) (by have := (List.getElem?_eq_some_iff.1 hx47).1; omega) Try.underlying23 rfl rfl rfl rfl ?_
                clear hK a; intro a hK
                refine st_op (d := 101) (v' := .agg #[.int .i64 x46.t.id, .int .i64 x46.t.ts, .slice x46.ra x46.t.reads.length x46.rc, .slice x46.wa x46.t.writes.length x46.wc]) (vs := [.int .i64 x46.t.id, .int .i64 x46.t.ts, .slice x46.ra x46.t.reads.length x46.rc, .slice x46.wa x46.t.writes.length x46.wc]) (obs := [(⟨b48, o49 + j * 4, none⟩, .int .i64 x46.t.id), (⟨b48, o49 + j * 4 + 1, none⟩, .int .i64 x46.t.ts), (⟨b48, o49 + j * 4 + 2, none⟩, .slice x46.ra x46.t.reads.length x46.rc), (⟨b48, o49 + j * 4 + 3, none⟩, .slice x46.wa x46.t.writes.length x46.wc)]) hK rfl (fun _ => by kernel_rfl) ⟨(hE.get 9 rfl) 0 _ rfl, (hE.get 9 rfl) 1 _ rfl, (hE.get 9 rfl) 2 _ rfl, (hE.get 9 rfl) 3 _ rfl, trivial⟩ rfl rfl rfl ?_
                clear hK a; intro a hK
                refine st_new (d := 22) (v := fun g => .pointer (some ⟨g, 0, none⟩)) (cs := #[.int .i64 0, .int .i64 0, .slice none 0 0, .slice none 0 0]) (t := 29) hK hE rfl (fun _ _ => by kernel_rfl) rfl rfl ?_
                clear hK hE a; intro a g51 w52 _ _ hK hE
                refine st_store2 0 [(0, .int .i64 x46.t.id), (1, .int .i64 x46.t.ts), (2, .slice x46.ra x46.t.reads.length x46.rc), (3, .slice x46.wa x46.t.writes.length x46.wc)] hK hE rfl rfl (fun _ => by kernel_rfl) rfl rfl rfl ?_
                clear hE; intro w53 hs_ hk_ hE
                clear hs_ hk_
                refine wpList_nil ?_
                refine xt_norm ?_
                refine wp_seq ?_
                refine wp_region_lit ?_
                refine st_op (d := 102) (v' := .pointer (some ⟨g51, 3, none⟩)) (vs := []) (obs := []) hK rfl (fun _ => by kernel_rfl) trivial rfl rfl rfl ?_
                clear hK a; intro a hK
                refine st_op (d := 103) (v' := .slice x46.wa x46.t.writes.length x46.wc) (vs := [.slice x46.wa x46.t.writes.length x46.wc]) (obs := [(⟨g51, 3, none⟩, .slice x46.wa x46.t.writes.length x46.wc)]) hK rfl (fun _ => by kernel_rfl) ⟨((hE.blk 0 rfl).cell 3).trans rfl, trivial⟩ rfl rfl rfl ?_
                clear hK a; intro a hK
                refine st_op (d := 104) (v' := .int .i64 ((x46.t.writes.length : Nat) : Int)) (vs := []) (obs := []) hK rfl (fun _ => by kernel_rfl) trivial rfl rfl rfl ?_
                clear hK a; intro a hK
                refine st_op (d := 105) (v' := .int .i64 0) (vs := []) (obs := []) hK rfl (fun _ => by kernel_rfl) trivial rfl rfl rfl ?_
                clear hK a; intro a hK
                refine wpList_nil ?_
                refine xt_norm ?_
                refine wp_block ?_
                refine vc_loop (γ := Nat) (fun i a w_ => Kn 180 [(1, .int .i64 key), (2, .int .i64 ts), (10, .bool false), (11, .bool true), (12, .pointer (some ⟨g17, 0, none⟩)), (15, .pointer (some ⟨g22, 0, none⟩)), (16, .bool (readLL M12.d key ts lo hi).2.1), (18, .pointer (some ⟨g26, 0, none⟩)), (96, .slice L.oa L.op.length L.oc), (97, .int .i64 ((L.op.length : Nat) : Int)), (98, .int .i64 ((j : Nat) : Int)), (99, .bool true), (100, .pointer (some ⟨b48, o49 + j * 4, none⟩)), (101, .agg #[.int .i64 x46.t.id, .int .i64 x46.t.ts, .slice x46.ra x46.t.reads.length x46.rc, .slice x46.wa x46.t.writes.length x46.wc]), (22, .pointer (some ⟨g51, 0, none⟩)), (102, .pointer (some ⟨g51, 3, none⟩)), (103, .slice x46.wa x46.t.writes.length x46.wc), (104, .int .i64 ((x46.t.writes.length : Nat) : Int)), (105, .int .i64 ((i : Nat) : Int))] a ∧ Ev w w_ [.blk g51 29 #[.int .i64 x46.t.id, .int .i64 x46.t.ts, .slice x46.ra x46.t.reads.length x46.rc, .slice x46.wa x46.t.writes.length x46.wc], .blk g26 44 #[.int .i64 (bstF key ts ((L.st ++ ((txs L.op).take j).flatMap verT) ++ (verT x46.t).take i)).key, .int .i64 (bstF key ts ((L.st ++ ((txs L.op).take j).flatMap verT) ++ (verT x46.t).take i)).ts, .int .i64 (bstF key ts ((L.st ++ ((txs L.op).take j).flatMap verT) ++ (verT x46.t).take i)).value, .bool (bstF key ts ((L.st ++ ((txs L.op).take j).flatMap verT) ++ (verT x46.t).take i)).gone], .blk g22 44 #[.int .i64 (readLL M12.d key ts lo hi).1.key, .int .i64 (readLL M12.d key ts lo hi).1.ts, .int .i64 (readLL M12.d key ts lo hi).1.value, .bool (readLL M12.d key ts lo hi).1.gone], .blk g17 25 #[.int .i64 M12.last, .slice M12.sa M12.st.length M12.sc, .slice M12.oa M12.op.length M12.oc], .dat (fun W => TS W A13 m15), .dat (fun W => LdW W M12), .blk g5 31 #[.int .i64 lo2, .int .i64 hi2], .blk g3 31 #[.int .i64 lo, .int .i64 hi], .blk g1 25 #[.int .i64 L.last, .slice L.sa L.st.length L.sc, .slice L.oa L.op.length L.oc], .dat (fun W => RS Ver.cells W L.sa L.st), .dat (fun W => Rec W b48 (o49 + j * 4) (TxV.cells x46)), .dat (fun W => ∀ i x, L.op[i]? = some x → Rec W b48 (o49 + i * 4) (TxV.cells x)), .dat (fun W => RS TxV.cells W L.oa L.op), .dat (fun W => RS Wr.cells W x46.wa x46.t.writes), .dat (fun W => LdW W L)] ∧ (i ≤ x46.t.writes.length) ∧ (True)) (fun i => x46.t.writes.length - i) 0 ?_ ?_
                · replace hK := hK.sub (d := 105) (v' := .int .i64 ((0 : Nat) : Int)) rfl (by first | rfl | (congr 1; omega))
                  refine ⟨hK.weak ⟨rfl, rfl, rfl, rfl, rfl, rfl, rfl, rfl, rfl, rfl, rfl, rfl, rfl, rfl, rfl, rfl, rfl, rfl, rfl, trivial⟩, (by rw [show bstF key ts ((L.st ++ ((txs L.op).take j).flatMap verT) ++ (verT x46.t).take 0) = bstF key ts (L.st ++ ((txs L.op).take j).flatMap verT) from by simp]; exact hE), by omega, trivial⟩
                · clear hK hE a; rintro i a w54 ⟨hK, hE, hf55, -⟩
                  refine wp_seq ?_
                  refine wp_region_lit ?_
                  refine st_op (d := 106) (v' := .bool (decide (((i : Nat) : Int) < ((x46.t.writes.length : Nat) : Int)))) (vs := []) (obs := []) hK rfl (fun _ => by kernel_rfl) trivial rfl rfl rfl ?_
                  clear hK a; intro a hK
                  refine wpList_nil ?_
                  refine xt_norm ?_
                  refine wp_seq ?_
                  rcases Bool.eq_false_or_eq_true (decide (((i : Nat) : Int) < ((x46.t.writes.length : Nat) : Int))) with hc56 | hc56
                  · have hc56p := of_decide_eq_true hc56
                    replace hK := hK.sub (d := 106) (v' := .bool true) rfl (congrArg Value.bool hc56)
                    refine vc_cond (t := true) hK (fun _ => rfl) ?_
                    rw [if_pos rfl]
                    refine wp_skip ?_
                    refine xt_norm ?_
                    refine wp_seq ?_
                    refine wp_block ?_
                    refine wp_seq ?_
                    refine wp_region_lit ?_
                    obtain ⟨x57, hx58⟩ : ∃ x, x46.t.writes[i]? = some x := ⟨_, List.getElem?_eq_getElem (by omega)⟩
                    obtain ⟨b59, o60, hA61⟩ := row_some (f := Wr.cells) (m := 3) (fun _ => rfl) (hE.get 13 rfl) (by decide) hx58
                    replace hE := hE.from_ 13 rfl (p := fun W => ∀ i x, x46.t.writes[i]? = some x → Rec W b59 (o60 + i * 3) (Wr.cells x)) (fun W hq => row_recs (fun _ => rfl) (by decide) hA61 hq)
                    replace hE := hE.from_ 13 rfl (p := fun W => Rec W b59 (o60 + i * 3) (Wr.cells x57)) (fun W hq => hq _ _ hx58)
                    refine st_ix (d := 107) (j := i) (m := 3) hK rfl rfl (fun _ => congrArg (fun A => Value.slice A x46.t.writes.length x46.wc) hA61) (fun _ => rfl) (by omega) (by have := (List.getElem?_eq_some_iff.1 hx58).1; omega) Try.underlying27 rfl rfl rfl rfl ?_
                    clear hK a; intro a hK
                    refine st_op (d := 108) (v' := .agg #[.int .i64 x57.key, .int .i64 x57.value, .bool x57.gone]) (vs := [.int .i64 x57.key, .int .i64 x57.value, .bool x57.gone]) (obs := [(⟨b59, o60 + i * 3, none⟩, .int .i64 x57.key), (⟨b59, o60 + i * 3 + 1, none⟩, .int .i64 x57.value), (⟨b59, o60 + i * 3 + 2, none⟩, .bool x57.gone)]) hK rfl (fun _ => by kernel_rfl) ⟨(hE.get 13 rfl) 0 _ rfl, (hE.get 13 rfl) 1 _ rfl, (hE.get 13 rfl) 2 _ rfl, trivial⟩ rfl rfl rfl ?_
                    clear hK a; intro a hK
                    refine st_new (d := 24) (v := fun g => .pointer (some ⟨g, 0, none⟩)) (cs := #[.int .i64 0, .int .i64 0, .bool false]) (t := 60) hK hE rfl (fun _ _ => by kernel_rfl) rfl rfl ?_
                    clear hK hE a; intro a g62 w63 _ _ hK hE
                    refine st_store2 0 [(0, .int .i64 x57.key), (1, .int .i64 x57.value), (2, .bool x57.gone)] hK hE rfl rfl (fun _ => by kernel_rfl) rfl rfl rfl ?_
                    clear hE; intro w64 hs_ hk_ hE
                    clear hs_ hk_
                    refine wpList_nil ?_
                    refine xt_norm ?_
                    refine wp_seq ?_
                    refine wp_region_lit ?_
                    refine st_op (d := 109) (v' := .pointer (some ⟨g62, 0, none⟩)) (vs := []) (obs := []) hK rfl (fun _ => by kernel_rfl) trivial rfl rfl rfl ?_
                    clear hK a; intro a hK
                    refine st_op (d := 110) (v' := .int .i64 x57.key) (vs := [.int .i64 x57.key]) (obs := [(⟨g62, 0, none⟩, .int .i64 x57.key)]) hK rfl (fun _ => by kernel_rfl) ⟨((hE.blk 0 rfl).cell 0).trans rfl, trivial⟩ rfl rfl rfl ?_
                    clear hK a; intro a hK
                    refine st_op (d := 111) (v' := .int .i64 key) (vs := []) (obs := []) hK rfl (fun _ => by kernel_rfl) trivial rfl rfl rfl ?_
                    clear hK a; intro a hK
                    refine st_op (d := 112) (v' := .bool (x57.key == key)) (vs := []) (obs := []) hK rfl (fun _ => by kernel_rfl) trivial rfl rfl rfl ?_
                    clear hK a; intro a hK
                    refine st_op (d := 113) (v' := .bool (x57.key == key)) (vs := []) (obs := []) hK rfl (fun _ => by kernel_rfl) trivial rfl rfl rfl ?_
                    clear hK a; intro a hK
                    rcases Bool.eq_false_or_eq_true ((x57.key == key)) with hc65 | hc65
                    · have hc65p := eq_of_beq hc65
                      replace hK := hK.sub (d := 113) (v' := .bool true) rfl (congrArg Value.bool hc65)
                      refine st_op (d := 114) (v' := .pointer (some ⟨g51, 1, none⟩)) (vs := []) (obs := []) hK rfl (fun _ => by kernel_rfl) trivial rfl rfl rfl ?_
                      clear hK a; intro a hK
                      refine st_op (d := 115) (v' := .int .i64 x46.t.ts) (vs := [.int .i64 x46.t.ts]) (obs := [(⟨g51, 1, none⟩, .int .i64 x46.t.ts)]) hK rfl (fun _ => by kernel_rfl) ⟨((hE.blk 1 rfl).cell 1).trans rfl, trivial⟩ rfl rfl rfl ?_
                      clear hK a; intro a hK
                      refine st_op (d := 116) (v' := .int .i64 ts) (vs := []) (obs := []) hK rfl (fun _ => by kernel_rfl) trivial rfl rfl rfl ?_
                      clear hK a; intro a hK
                      refine st_op (d := 117) (v' := .bool (decide (x46.t.ts ≤ ts))) (vs := []) (obs := []) hK rfl (fun _ => by kernel_rfl) trivial rfl rfl rfl ?_
                      clear hK a; intro a hK
                      refine st_op (d := 118) (v' := .bool (decide (x46.t.ts ≤ ts))) (vs := []) (obs := []) hK rfl (fun _ => by kernel_rfl) trivial rfl rfl rfl ?_
                      clear hK a; intro a hK
                      refine st_op (d := 119) (v' := .bool (decide (x46.t.ts ≤ ts))) (vs := []) (obs := []) hK rfl (fun _ => by kernel_rfl) trivial rfl rfl rfl ?_
                      clear hK a; intro a hK
                      rcases Bool.eq_false_or_eq_true (decide (x46.t.ts ≤ ts)) with hc66 | hc66
                      · have hc66p := of_decide_eq_true hc66
                        replace hK := hK.sub (d := 119) (v' := .bool true) rfl (congrArg Value.bool hc66)
                        refine st_op (d := 120) (v' := .pointer (some ⟨g51, 1, none⟩)) (vs := []) (obs := []) hK rfl (fun _ => by kernel_rfl) trivial rfl rfl rfl ?_
                        clear hK a; intro a hK
                        refine st_op (d := 121) (v' := .int .i64 x46.t.ts) (vs := [.int .i64 x46.t.ts]) (obs := [(⟨g51, 1, none⟩, .int .i64 x46.t.ts)]) hK rfl (fun _ => by kernel_rfl) ⟨((hE.blk 1 rfl).cell 1).trans rfl, trivial⟩ rfl rfl rfl ?_
                        clear hK a; intro a hK
                        refine st_op (d := 122) (v' := .pointer (some ⟨g26, 1, none⟩)) (vs := []) (obs := []) hK rfl (fun _ => by kernel_rfl) trivial rfl rfl rfl ?_
                        clear hK a; intro a hK
                        refine st_op (d := 123) (v' := .int .i64 (bstF key ts ((L.st ++ ((txs L.op).take j).flatMap verT) ++ (verT x46.t).take i)).ts) (vs := [.int .i64 (bstF key ts ((L.st ++ ((txs L.op).take j).flatMap verT) ++ (verT x46.t).take i)).ts]) (obs := [(⟨g26, 1, none⟩, .int .i64 (bstF key ts ((L.st ++ ((txs L.op).take j).flatMap verT) ++ (verT x46.t).take i)).ts)]) hK rfl (fun _ => by kernel_rfl) ⟨((hE.blk 2 rfl).cell 1).trans rfl, trivial⟩ rfl rfl rfl ?_
                        clear hK a; intro a hK
                        refine st_op (d := 124) (v' := .bool (decide (x46.t.ts > (bstF key ts ((L.st ++ ((txs L.op).take j).flatMap verT) ++ (verT x46.t).take i)).ts))) (vs := []) (obs := []) hK rfl (fun _ => by kernel_rfl) trivial rfl rfl rfl ?_
                        clear hK a; intro a hK
                        refine st_op (d := 125) (v' := .bool (decide (x46.t.ts > (bstF key ts ((L.st ++ ((txs L.op).take j).flatMap verT) ++ (verT x46.t).take i)).ts))) (vs := []) (obs := []) hK rfl (fun _ => by kernel_rfl) trivial rfl rfl rfl ?_
                        clear hK a; intro a hK
                        refine wpList_nil ?_
                        replace hK := hK.weak (K' := [(1, .int .i64 key), (2, .int .i64 ts), (10, .bool false), (11, .bool true), (12, .pointer (some ⟨g17, 0, none⟩)), (15, .pointer (some ⟨g22, 0, none⟩)), (16, .bool (readLL M12.d key ts lo hi).2.1), (18, .pointer (some ⟨g26, 0, none⟩)), (96, .slice L.oa L.op.length L.oc), (97, .int .i64 ((L.op.length : Nat) : Int)), (98, .int .i64 ((j : Nat) : Int)), (99, .bool true), (100, .pointer (some ⟨b48, o49 + j * 4, none⟩)), (101, .agg #[.int .i64 x46.t.id, .int .i64 x46.t.ts, .slice x46.ra x46.t.reads.length x46.rc, .slice x46.wa x46.t.writes.length x46.wc]), (22, .pointer (some ⟨g51, 0, none⟩)), (102, .pointer (some ⟨g51, 3, none⟩)), (103, .slice x46.wa x46.t.writes.length x46.wc), (104, .int .i64 ((x46.t.writes.length : Nat) : Int)), (105, .int .i64 ((i : Nat) : Int)), (106, .bool true), (107, .pointer (some ⟨b59, o60 + i * 3, none⟩)), (108, .agg #[.int .i64 x57.key, .int .i64 x57.value, .bool x57.gone]), (24, .pointer (some ⟨g62, 0, none⟩)), (109, .pointer (some ⟨g62, 0, none⟩)), (110, .int .i64 x57.key), (111, .int .i64 key), (112, .bool (x57.key == key)), (113, .bool true), (114, .pointer (some ⟨g51, 1, none⟩)), (115, .int .i64 x46.t.ts), (116, .int .i64 ts), (117, .bool (decide (x46.t.ts ≤ ts))), (118, .bool (decide (x46.t.ts ≤ ts))), (119, .bool true), (120, .pointer (some ⟨g51, 1, none⟩)), (121, .int .i64 x46.t.ts), (122, .pointer (some ⟨g26, 1, none⟩)), (123, .int .i64 (bstF key ts ((L.st ++ ((txs L.op).take j).flatMap verT) ++ (verT x46.t).take i)).ts), (124, .bool (decide (x46.t.ts > (bstF key ts ((L.st ++ ((txs L.op).take j).flatMap verT) ++ (verT x46.t).take i)).ts))), (125, .bool (decide (x46.t.ts > (bstF key ts ((L.st ++ ((txs L.op).take j).flatMap verT) ++ (verT x46.t).take i)).ts)))]) ⟨rfl, rfl, rfl, rfl, rfl, rfl, rfl, rfl, rfl, rfl, rfl, rfl, rfl, rfl, rfl, rfl, rfl, rfl, rfl, rfl, rfl, rfl, rfl, rfl, rfl, rfl, rfl, rfl, rfl, rfl, rfl, rfl, rfl, rfl, rfl, rfl, rfl, rfl, rfl, rfl, trivial⟩
                        refine xt_norm ?_
                        rcases Bool.eq_false_or_eq_true (decide (x46.t.ts > (bstF key ts ((L.st ++ ((txs L.op).take j).flatMap verT) ++ (verT x46.t).take i)).ts)) with hc67 | hc67
                        · have hc67p := of_decide_eq_true hc67
                          replace hK := hK.sub (d := 125) (v' := .bool true) rfl (congrArg Value.bool hc67)
                          refine vc_cond (t := true) hK (fun _ => rfl) ?_
                          rw [if_pos rfl]
                          refine wp_region_lit ?_
                          refine st_op (d := 126) (v' := .int .i64 key) (vs := []) (obs := []) hK rfl (fun _ => by kernel_rfl) trivial rfl rfl rfl ?_
                          clear hK a; intro a hK
                          refine st_op (d := 127) (v' := .pointer (some ⟨g51, 1, none⟩)) (vs := []) (obs := []) hK rfl (fun _ => by kernel_rfl) trivial rfl rfl rfl ?_
                          clear hK a; intro a hK
                          refine st_op (d := 128) (v' := .int .i64 x46.t.ts) (vs := [.int .i64 x46.t.ts]) (obs := [(⟨g51, 1, none⟩, .int .i64 x46.t.ts)]) hK rfl (fun _ => by kernel_rfl) ⟨((hE.blk 1 rfl).cell 1).trans rfl, trivial⟩ rfl rfl rfl ?_
                          clear hK a; intro a hK
                          refine st_op (d := 129) (v' := .pointer (some ⟨g62, 1, none⟩)) (vs := []) (obs := []) hK rfl (fun _ => by kernel_rfl) trivial rfl rfl rfl ?_
                          clear hK a; intro a hK
                          refine st_op (d := 130) (v' := .int .i64 x57.value) (vs := [.int .i64 x57.value]) (obs := [(⟨g62, 1, none⟩, .int .i64 x57.value)]) hK rfl (fun _ => by kernel_rfl) ⟨((hE.blk 0 rfl).cell 1).trans rfl, trivial⟩ rfl rfl rfl ?_
                          clear hK a; intro a hK
                          refine st_op (d := 131) (v' := .pointer (some ⟨g62, 2, none⟩)) (vs := []) (obs := []) hK rfl (fun _ => by kernel_rfl) trivial rfl rfl rfl ?_
                          clear hK a; intro a hK
                          refine st_op (d := 132) (v' := .bool x57.gone) (vs := [.bool x57.gone]) (obs := [(⟨g62, 2, none⟩, .bool x57.gone)]) hK rfl (fun _ => by kernel_rfl) ⟨((hE.blk 0 rfl).cell 2).trans rfl, trivial⟩ rfl rfl rfl ?_
                          clear hK a; intro a hK
                          refine st_op (d := 133) (v' := .agg #[.int .i64 key, .int .i64 x46.t.ts, .int .i64 x57.value, .bool x57.gone]) (vs := []) (obs := []) hK rfl (fun _ => by kernel_rfl) trivial rfl rfl rfl ?_
                          clear hK a; intro a hK
                          refine st_store2 2 [(0, .int .i64 key), (1, .int .i64 x46.t.ts), (2, .int .i64 x57.value), (3, .bool x57.gone)] hK hE rfl rfl (fun _ => by kernel_rfl) rfl rfl rfl ?_
                          clear hE; intro w68 hs_ hk_ hE
                          clear hs_ hk_
                          refine wpList_nil ?_
                          replace hK := hK.weak (K' := [(1, .int .i64 key), (2, .int .i64 ts), (10, .bool false), (11, .bool true), (12, .pointer (some ⟨g17, 0, none⟩)), (15, .pointer (some ⟨g22, 0, none⟩)), (16, .bool (readLL M12.d key ts lo hi).2.1), (18, .pointer (some ⟨g26, 0, none⟩)), (96, .slice L.oa L.op.length L.oc), (97, .int .i64 ((L.op.length : Nat) : Int)), (98, .int .i64 ((j : Nat) : Int)), (99, .bool true), (100, .pointer (some ⟨b48, o49 + j * 4, none⟩)), (101, .agg #[.int .i64 x46.t.id, .int .i64 x46.t.ts, .slice x46.ra x46.t.reads.length x46.rc, .slice x46.wa x46.t.writes.length x46.wc]), (22, .pointer (some ⟨g51, 0, none⟩)), (102, .pointer (some ⟨g51, 3, none⟩)), (103, .slice x46.wa x46.t.writes.length x46.wc), (104, .int .i64 ((x46.t.writes.length : Nat) : Int)), (105, .int .i64 ((i : Nat) : Int)), (106, .bool true), (107, .pointer (some ⟨b59, o60 + i * 3, none⟩)), (108, .agg #[.int .i64 x57.key, .int .i64 x57.value, .bool x57.gone]), (24, .pointer (some ⟨g62, 0, none⟩)), (109, .pointer (some ⟨g62, 0, none⟩)), (110, .int .i64 x57.key), (111, .int .i64 key), (112, .bool (x57.key == key)), (113, .bool true), (114, .pointer (some ⟨g51, 1, none⟩)), (115, .int .i64 x46.t.ts), (116, .int .i64 ts), (117, .bool (decide (x46.t.ts ≤ ts))), (118, .bool (decide (x46.t.ts ≤ ts))), (119, .bool true), (120, .pointer (some ⟨g51, 1, none⟩)), (121, .int .i64 x46.t.ts), (122, .pointer (some ⟨g26, 1, none⟩)), (123, .int .i64 (bstF key ts ((L.st ++ ((txs L.op).take j).flatMap verT) ++ (verT x46.t).take i)).ts), (124, .bool (decide (x46.t.ts > (bstF key ts ((L.st ++ ((txs L.op).take j).flatMap verT) ++ (verT x46.t).take i)).ts))), (125, .bool true), (126, .int .i64 key), (127, .pointer (some ⟨g51, 1, none⟩)), (128, .int .i64 x46.t.ts), (129, .pointer (some ⟨g62, 1, none⟩)), (130, .int .i64 x57.value), (131, .pointer (some ⟨g62, 2, none⟩)), (132, .bool x57.gone), (133, .agg #[.int .i64 key, .int .i64 x46.t.ts, .int .i64 x57.value, .bool x57.gone])]) ⟨rfl, rfl, rfl, rfl, rfl, rfl, rfl, rfl, rfl, rfl, rfl, rfl, rfl, rfl, rfl, rfl, rfl, rfl, rfl, rfl, rfl, rfl, rfl, rfl, rfl, rfl, rfl, rfl, rfl, rfl, rfl, rfl, rfl, rfl, rfl, rfl, rfl, rfl, rfl, rfl, rfl, rfl, rfl, rfl, rfl, rfl, rfl, rfl, trivial⟩
                          refine xb_norm ?_
                          refine xt_norm ?_
                          refine wp_region_lit ?_
                          refine st_op (d := 134) (v' := .int .i64 (IntKind.i64.wrap (((i : Nat) : Int) + 1))) (v := .int .i64 (((i : Nat) : Int) + 1)) (vs := []) (obs := []) hK rfl (fun _ => by kernel_rfl) trivial (congrArg (Value.int .i64) (IntWalk.i64_in _ (by omega))) rfl rfl ?_
                          clear hK a; intro a hK
                          refine st_op (d := 105) (v' := .int .i64 (((i : Nat) : Int) + 1)) (vs := []) (obs := []) hK rfl (fun _ => by kernel_rfl) trivial rfl rfl rfl ?_
                          clear hK a; intro a hK
                          refine wpList_nil ?_
                          replace hK := hK.weak (K' := [(1, .int .i64 key), (2, .int .i64 ts), (10, .bool false), (11, .bool true), (12, .pointer (some ⟨g17, 0, none⟩)), (15, .pointer (some ⟨g22, 0, none⟩)), (16, .bool (readLL M12.d key ts lo hi).2.1), (18, .pointer (some ⟨g26, 0, none⟩)), (96, .slice L.oa L.op.length L.oc), (97, .int .i64 ((L.op.length : Nat) : Int)), (98, .int .i64 ((j : Nat) : Int)), (99, .bool true), (100, .pointer (some ⟨b48, o49 + j * 4, none⟩)), (101, .agg #[.int .i64 x46.t.id, .int .i64 x46.t.ts, .slice x46.ra x46.t.reads.length x46.rc, .slice x46.wa x46.t.writes.length x46.wc]), (22, .pointer (some ⟨g51, 0, none⟩)), (102, .pointer (some ⟨g51, 3, none⟩)), (103, .slice x46.wa x46.t.writes.length x46.wc), (104, .int .i64 ((x46.t.writes.length : Nat) : Int)), (105, .int .i64 (((i : Nat) : Int) + 1)), (106, .bool true), (107, .pointer (some ⟨b59, o60 + i * 3, none⟩)), (108, .agg #[.int .i64 x57.key, .int .i64 x57.value, .bool x57.gone]), (24, .pointer (some ⟨g62, 0, none⟩)), (109, .pointer (some ⟨g62, 0, none⟩)), (110, .int .i64 x57.key), (111, .int .i64 key), (112, .bool (x57.key == key)), (113, .bool true), (114, .pointer (some ⟨g51, 1, none⟩)), (115, .int .i64 x46.t.ts), (116, .int .i64 ts), (117, .bool (decide (x46.t.ts ≤ ts))), (118, .bool (decide (x46.t.ts ≤ ts))), (119, .bool true), (120, .pointer (some ⟨g51, 1, none⟩)), (121, .int .i64 x46.t.ts), (122, .pointer (some ⟨g26, 1, none⟩)), (123, .int .i64 (bstF key ts ((L.st ++ ((txs L.op).take j).flatMap verT) ++ (verT x46.t).take i)).ts), (124, .bool (decide (x46.t.ts > (bstF key ts ((L.st ++ ((txs L.op).take j).flatMap verT) ++ (verT x46.t).take i)).ts))), (125, .bool true), (126, .int .i64 key), (127, .pointer (some ⟨g51, 1, none⟩)), (128, .int .i64 x46.t.ts), (129, .pointer (some ⟨g62, 1, none⟩)), (130, .int .i64 x57.value), (131, .pointer (some ⟨g62, 2, none⟩)), (132, .bool x57.gone), (133, .agg #[.int .i64 key, .int .i64 x46.t.ts, .int .i64 x57.value, .bool x57.gone]), (134, .int .i64 (((i : Nat) : Int) + 1))]) ⟨rfl, rfl, rfl, rfl, rfl, rfl, rfl, rfl, rfl, rfl, rfl, rfl, rfl, rfl, rfl, rfl, rfl, rfl, rfl, rfl, rfl, rfl, rfl, rfl, rfl, rfl, rfl, rfl, rfl, rfl, rfl, rfl, rfl, rfl, rfl, rfl, rfl, rfl, rfl, rfl, rfl, rfl, rfl, rfl, rfl, rfl, rfl, rfl, rfl, trivial⟩
                          refine xt_norm ?_
                          replace hK := hK.sub (d := 105) (v' := .int .i64 (((i + 1) : Nat) : Int)) rfl (by first | rfl | (congr 1; omega))
                          have hb := bst_w key ts (L.st ++ ((txs L.op).take j).flatMap verT) hx58
                          rw [bst_hit ⟨by show x57.key = key; omega, by show x46.t.ts ≤ ts; omega, by show _ < x46.t.ts; omega⟩] at hb
                          rw [show x57.key = key by omega] at hb
                          refine ⟨i + 1, ⟨hK.weak ⟨rfl, rfl, rfl, rfl, rfl, rfl, rfl, rfl, rfl, rfl, rfl, rfl, rfl, rfl, rfl, rfl, rfl, rfl, rfl, trivial⟩, (by rw [hb]; exact hE.drop (.cons _ (.cons_cons _ (.cons_cons _ (.cons_cons _ (.cons_cons _ (.cons_cons _ (.cons_cons _ (.cons_cons _ (.cons_cons _ (.cons_cons _ (.cons_cons _ (.cons_cons _ (.cons_cons _ (.cons_cons _ (.cons _ (.cons _ (.cons_cons _ (.cons_cons _ .slnil))))))))))))))))))), by omega, trivial⟩, by omega⟩
                        · have hc67p := of_decide_eq_false hc67
                          replace hK := hK.sub (d := 125) (v' := .bool false) rfl (congrArg Value.bool hc67)
                          refine vc_cond (t := false) hK (fun _ => rfl) ?_
                          rw [if_neg (by simp)]
                          refine wp_skip ?_
                          refine xb_norm ?_
                          refine xt_norm ?_
                          refine wp_region_lit ?_
                          refine st_op (d := 134) (v' := .int .i64 (IntKind.i64.wrap (((i : Nat) : Int) + 1))) (v := .int .i64 (((i : Nat) : Int) + 1)) (vs := []) (obs := []) hK rfl (fun _ => by kernel_rfl) trivial (congrArg (Value.int .i64) (IntWalk.i64_in _ (by omega))) rfl rfl ?_
                          clear hK a; intro a hK
                          refine st_op (d := 105) (v' := .int .i64 (((i : Nat) : Int) + 1)) (vs := []) (obs := []) hK rfl (fun _ => by kernel_rfl) trivial rfl rfl rfl ?_
                          clear hK a; intro a hK
                          refine wpList_nil ?_
                          replace hK := hK.weak (K' := [(1, .int .i64 key), (2, .int .i64 ts), (10, .bool false), (11, .bool true), (12, .pointer (some ⟨g17, 0, none⟩)), (15, .pointer (some ⟨g22, 0, none⟩)), (16, .bool (readLL M12.d key ts lo hi).2.1), (18, .pointer (some ⟨g26, 0, none⟩)), (96, .slice L.oa L.op.length L.oc), (97, .int .i64 ((L.op.length : Nat) : Int)), (98, .int .i64 ((j : Nat) : Int)), (99, .bool true), (100, .pointer (some ⟨b48, o49 + j * 4, none⟩)), (101, .agg #[.int .i64 x46.t.id, .int .i64 x46.t.ts, .slice x46.ra x46.t.reads.length x46.rc, .slice x46.wa x46.t.writes.length x46.wc]), (22, .pointer (some ⟨g51, 0, none⟩)), (102, .pointer (some ⟨g51, 3, none⟩)), (103, .slice x46.wa x46.t.writes.length x46.wc), (104, .int .i64 ((x46.t.writes.length : Nat) : Int)), (105, .int .i64 (((i : Nat) : Int) + 1)), (106, .bool true), (107, .pointer (some ⟨b59, o60 + i * 3, none⟩)), (108, .agg #[.int .i64 x57.key, .int .i64 x57.value, .bool x57.gone]), (24, .pointer (some ⟨g62, 0, none⟩)), (109, .pointer (some ⟨g62, 0, none⟩)), (110, .int .i64 x57.key), (111, .int .i64 key), (112, .bool (x57.key == key)), (113, .bool true), (114, .pointer (some ⟨g51, 1, none⟩)), (115, .int .i64 x46.t.ts), (116, .int .i64 ts), (117, .bool (decide (x46.t.ts ≤ ts))), (118, .bool (decide (x46.t.ts ≤ ts))), (119, .bool true), (120, .pointer (some ⟨g51, 1, none⟩)), (121, .int .i64 x46.t.ts), (122, .pointer (some ⟨g26, 1, none⟩)), (123, .int .i64 (bstF key ts ((L.st ++ ((txs L.op).take j).flatMap verT) ++ (verT x46.t).take i)).ts), (124, .bool (decide (x46.t.ts > (bstF key ts ((L.st ++ ((txs L.op).take j).flatMap verT) ++ (verT x46.t).take i)).ts))), (125, .bool false), (134, .int .i64 (((i : Nat) : Int) + 1))]) ⟨rfl, rfl, rfl, rfl, rfl, rfl, rfl, rfl, rfl, rfl, rfl, rfl, rfl, rfl, rfl, rfl, rfl, rfl, rfl, rfl, rfl, rfl, rfl, rfl, rfl, rfl, rfl, rfl, rfl, rfl, rfl, rfl, rfl, rfl, rfl, rfl, rfl, rfl, rfl, rfl, rfl, trivial⟩
                          refine xt_norm ?_
                          replace hK := hK.sub (d := 105) (v' := .int .i64 (((i + 1) : Nat) : Int)) rfl (by first | rfl | (congr 1; omega))
                          have hb := bst_w key ts (L.st ++ ((txs L.op).take j).flatMap verT) hx58
                          rw [bst_miss (by show ¬(x57.key = key ∧ x46.t.ts ≤ ts ∧ _ < x46.t.ts); omega)] at hb
                          refine ⟨i + 1, ⟨hK.weak ⟨rfl, rfl, rfl, rfl, rfl, rfl, rfl, rfl, rfl, rfl, rfl, rfl, rfl, rfl, rfl, rfl, rfl, rfl, rfl, trivial⟩, (by rw [hb]; exact hE.drop (.cons _ (.cons_cons _ (.cons_cons _ (.cons_cons _ (.cons_cons _ (.cons_cons _ (.cons_cons _ (.cons_cons _ (.cons_cons _ (.cons_cons _ (.cons_cons _ (.cons_cons _ (.cons_cons _ (.cons_cons _ (.cons _ (.cons _ (.cons_cons _ (.cons_cons _ .slnil))))))))))))))))))), by omega, trivial⟩, by omega⟩
                      · have hc66p := of_decide_eq_false hc66
                        replace hK := hK.sub (d := 119) (v' := .bool false) rfl (congrArg Value.bool hc66)
                        refine st_skip (d := 120) hK rfl rfl rfl ?_
                        clear hK a; intro a hK
                        refine st_skip (d := 121) hK rfl rfl rfl ?_
                        clear hK a; intro a hK
                        refine st_skip (d := 122) hK rfl rfl rfl ?_
                        clear hK a; intro a hK
                        refine st_skip (d := 123) hK rfl rfl rfl ?_
                        clear hK a; intro a hK
                        refine st_skip (d := 124) hK rfl rfl rfl ?_
                        clear hK a; intro a hK
                        refine st_op (d := 125) (v' := .bool false) (vs := []) (obs := []) hK rfl (fun _ => by kernel_rfl) trivial rfl rfl rfl ?_
                        clear hK a; intro a hK
                        refine wpList_nil ?_
                        replace hK := hK.weak (K' := [(1, .int .i64 key), (2, .int .i64 ts), (10, .bool false), (11, .bool true), (12, .pointer (some ⟨g17, 0, none⟩)), (15, .pointer (some ⟨g22, 0, none⟩)), (16, .bool (readLL M12.d key ts lo hi).2.1), (18, .pointer (some ⟨g26, 0, none⟩)), (96, .slice L.oa L.op.length L.oc), (97, .int .i64 ((L.op.length : Nat) : Int)), (98, .int .i64 ((j : Nat) : Int)), (99, .bool true), (100, .pointer (some ⟨b48, o49 + j * 4, none⟩)), (101, .agg #[.int .i64 x46.t.id, .int .i64 x46.t.ts, .slice x46.ra x46.t.reads.length x46.rc, .slice x46.wa x46.t.writes.length x46.wc]), (22, .pointer (some ⟨g51, 0, none⟩)), (102, .pointer (some ⟨g51, 3, none⟩)), (103, .slice x46.wa x46.t.writes.length x46.wc), (104, .int .i64 ((x46.t.writes.length : Nat) : Int)), (105, .int .i64 ((i : Nat) : Int)), (106, .bool true), (107, .pointer (some ⟨b59, o60 + i * 3, none⟩)), (108, .agg #[.int .i64 x57.key, .int .i64 x57.value, .bool x57.gone]), (24, .pointer (some ⟨g62, 0, none⟩)), (109, .pointer (some ⟨g62, 0, none⟩)), (110, .int .i64 x57.key), (111, .int .i64 key), (112, .bool (x57.key == key)), (113, .bool true), (114, .pointer (some ⟨g51, 1, none⟩)), (115, .int .i64 x46.t.ts), (116, .int .i64 ts), (117, .bool (decide (x46.t.ts ≤ ts))), (118, .bool (decide (x46.t.ts ≤ ts))), (119, .bool false), (125, .bool false)]) ⟨rfl, rfl, rfl, rfl, rfl, rfl, rfl, rfl, rfl, rfl, rfl, rfl, rfl, rfl, rfl, rfl, rfl, rfl, rfl, rfl, rfl, rfl, rfl, rfl, rfl, rfl, rfl, rfl, rfl, rfl, rfl, rfl, rfl, rfl, rfl, trivial⟩
                        refine xt_norm ?_
                        refine vc_cond (t := false) hK (fun _ => rfl) ?_
                        rw [if_neg (by simp)]
                        refine wp_skip ?_
                        refine xb_norm ?_
                        refine xt_norm ?_
                        refine wp_region_lit ?_
                        refine st_op (d := 134) (v' := .int .i64 (IntKind.i64.wrap (((i : Nat) : Int) + 1))) (v := .int .i64 (((i : Nat) : Int) + 1)) (vs := []) (obs := []) hK rfl (fun _ => by kernel_rfl) trivial (congrArg (Value.int .i64) (IntWalk.i64_in _ (by omega))) rfl rfl ?_
                        clear hK a; intro a hK
                        refine st_op (d := 105) (v' := .int .i64 (((i : Nat) : Int) + 1)) (vs := []) (obs := []) hK rfl (fun _ => by kernel_rfl) trivial rfl rfl rfl ?_
                        clear hK a; intro a hK
                        refine wpList_nil ?_
                        replace hK := hK.weak (K' := [(1, .int .i64 key), (2, .int .i64 ts), (10, .bool false), (11, .bool true), (12, .pointer (some ⟨g17, 0, none⟩)), (15, .pointer (some ⟨g22, 0, none⟩)), (16, .bool (readLL M12.d key ts lo hi).2.1), (18, .pointer (some ⟨g26, 0, none⟩)), (96, .slice L.oa L.op.length L.oc), (97, .int .i64 ((L.op.length : Nat) : Int)), (98, .int .i64 ((j : Nat) : Int)), (99, .bool true), (100, .pointer (some ⟨b48, o49 + j * 4, none⟩)), (101, .agg #[.int .i64 x46.t.id, .int .i64 x46.t.ts, .slice x46.ra x46.t.reads.length x46.rc, .slice x46.wa x46.t.writes.length x46.wc]), (22, .pointer (some ⟨g51, 0, none⟩)), (102, .pointer (some ⟨g51, 3, none⟩)), (103, .slice x46.wa x46.t.writes.length x46.wc), (104, .int .i64 ((x46.t.writes.length : Nat) : Int)), (105, .int .i64 (((i : Nat) : Int) + 1)), (106, .bool true), (107, .pointer (some ⟨b59, o60 + i * 3, none⟩)), (108, .agg #[.int .i64 x57.key, .int .i64 x57.value, .bool x57.gone]), (24, .pointer (some ⟨g62, 0, none⟩)), (109, .pointer (some ⟨g62, 0, none⟩)), (110, .int .i64 x57.key), (111, .int .i64 key), (112, .bool (x57.key == key)), (113, .bool true), (114, .pointer (some ⟨g51, 1, none⟩)), (115, .int .i64 x46.t.ts), (116, .int .i64 ts), (117, .bool (decide (x46.t.ts ≤ ts))), (118, .bool (decide (x46.t.ts ≤ ts))), (119, .bool false), (125, .bool false), (134, .int .i64 (((i : Nat) : Int) + 1))]) ⟨rfl, rfl, rfl, rfl, rfl, rfl, rfl, rfl, rfl, rfl, rfl, rfl, rfl, rfl, rfl, rfl, rfl, rfl, rfl, rfl, rfl, rfl, rfl, rfl, rfl, rfl, rfl, rfl, rfl, rfl, rfl, rfl, rfl, rfl, rfl, rfl, trivial⟩
                        refine xt_norm ?_
                        replace hK := hK.sub (d := 105) (v' := .int .i64 (((i + 1) : Nat) : Int)) rfl (by first | rfl | (congr 1; omega))
                        have hb := bst_w key ts (L.st ++ ((txs L.op).take j).flatMap verT) hx58
                        rw [bst_miss (by show ¬(x57.key = key ∧ x46.t.ts ≤ ts ∧ _ < x46.t.ts); omega)] at hb
                        refine ⟨i + 1, ⟨hK.weak ⟨rfl, rfl, rfl, rfl, rfl, rfl, rfl, rfl, rfl, rfl, rfl, rfl, rfl, rfl, rfl, rfl, rfl, rfl, rfl, trivial⟩, (by rw [hb]; exact hE.drop (.cons _ (.cons_cons _ (.cons_cons _ (.cons_cons _ (.cons_cons _ (.cons_cons _ (.cons_cons _ (.cons_cons _ (.cons_cons _ (.cons_cons _ (.cons_cons _ (.cons_cons _ (.cons_cons _ (.cons_cons _ (.cons _ (.cons _ (.cons_cons _ (.cons_cons _ .slnil))))))))))))))))))), by omega, trivial⟩, by omega⟩
                    · have hc65p := ne_of_beq_false hc65
                      replace hK := hK.sub (d := 113) (v' := .bool false) rfl (congrArg Value.bool hc65)
                      refine st_skip (d := 114) hK rfl rfl rfl ?_
                      clear hK a; intro a hK
                      refine st_skip (d := 115) hK rfl rfl rfl ?_
                      clear hK a; intro a hK
                      refine st_skip (d := 116) hK rfl rfl rfl ?_
                      clear hK a; intro a hK
                      refine st_skip (d := 117) hK rfl rfl rfl ?_
                      clear hK a; intro a hK
                      refine st_op (d := 118) (v' := .bool false) (vs := []) (obs := []) hK rfl (fun _ => by kernel_rfl) trivial rfl rfl rfl ?_
                      clear hK a; intro a hK
                      refine st_op (d := 119) (v' := .bool false) (vs := []) (obs := []) hK rfl (fun _ => by kernel_rfl) trivial rfl rfl rfl ?_
                      clear hK a; intro a hK
                      refine st_skip (d := 120) hK rfl rfl rfl ?_
                      clear hK a; intro a hK
                      refine st_skip (d := 121) hK rfl rfl rfl ?_
                      clear hK a; intro a hK
                      refine st_skip (d := 122) hK rfl rfl rfl ?_
                      clear hK a; intro a hK
                      refine st_skip (d := 123) hK rfl rfl rfl ?_
                      clear hK a; intro a hK
                      refine st_skip (d := 124) hK rfl rfl rfl ?_
                      clear hK a; intro a hK
                      refine st_op (d := 125) (v' := .bool false) (vs := []) (obs := []) hK rfl (fun _ => by kernel_rfl) trivial rfl rfl rfl ?_
                      clear hK a; intro a hK
                      refine wpList_nil ?_
                      replace hK := hK.weak (K' := [(1, .int .i64 key), (2, .int .i64 ts), (10, .bool false), (11, .bool true), (12, .pointer (some ⟨g17, 0, none⟩)), (15, .pointer (some ⟨g22, 0, none⟩)), (16, .bool (readLL M12.d key ts lo hi).2.1), (18, .pointer (some ⟨g26, 0, none⟩)), (96, .slice L.oa L.op.length L.oc), (97, .int .i64 ((L.op.length : Nat) : Int)), (98, .int .i64 ((j : Nat) : Int)), (99, .bool true), (100, .pointer (some ⟨b48, o49 + j * 4, none⟩)), (101, .agg #[.int .i64 x46.t.id, .int .i64 x46.t.ts, .slice x46.ra x46.t.reads.length x46.rc, .slice x46.wa x46.t.writes.length x46.wc]), (22, .pointer (some ⟨g51, 0, none⟩)), (102, .pointer (some ⟨g51, 3, none⟩)), (103, .slice x46.wa x46.t.writes.length x46.wc), (104, .int .i64 ((x46.t.writes.length : Nat) : Int)), (105, .int .i64 ((i : Nat) : Int)), (106, .bool true), (107, .pointer (some ⟨b59, o60 + i * 3, none⟩)), (108, .agg #[.int .i64 x57.key, .int .i64 x57.value, .bool x57.gone]), (24, .pointer (some ⟨g62, 0, none⟩)), (109, .pointer (some ⟨g62, 0, none⟩)), (110, .int .i64 x57.key), (111, .int .i64 key), (112, .bool (x57.key == key)), (113, .bool false), (118, .bool false), (119, .bool false), (125, .bool false)]) ⟨rfl, rfl, rfl, rfl, rfl, rfl, rfl, rfl, rfl, rfl, rfl, rfl, rfl, rfl, rfl, rfl, rfl, rfl, rfl, rfl, rfl, rfl, rfl, rfl, rfl, rfl, rfl, rfl, rfl, rfl, rfl, trivial⟩
                      refine xt_norm ?_
                      refine vc_cond (t := false) hK (fun _ => rfl) ?_
                      rw [if_neg (by simp)]
                      refine wp_skip ?_
                      refine xb_norm ?_
                      refine xt_norm ?_
                      refine wp_region_lit ?_
                      refine st_op (d := 134) (v' := .int .i64 (IntKind.i64.wrap (((i : Nat) : Int) + 1))) (v := .int .i64 (((i : Nat) : Int) + 1)) (vs := []) (obs := []) hK rfl (fun _ => by kernel_rfl) trivial (congrArg (Value.int .i64) (IntWalk.i64_in _ (by omega))) rfl rfl ?_
                      clear hK a; intro a hK
                      refine st_op (d := 105) (v' := .int .i64 (((i : Nat) : Int) + 1)) (vs := []) (obs := []) hK rfl (fun _ => by kernel_rfl) trivial rfl rfl rfl ?_
                      clear hK a; intro a hK
                      refine wpList_nil ?_
                      replace hK := hK.weak (K' := [(1, .int .i64 key), (2, .int .i64 ts), (10, .bool false), (11, .bool true), (12, .pointer (some ⟨g17, 0, none⟩)), (15, .pointer (some ⟨g22, 0, none⟩)), (16, .bool (readLL M12.d key ts lo hi).2.1), (18, .pointer (some ⟨g26, 0, none⟩)), (96, .slice L.oa L.op.length L.oc), (97, .int .i64 ((L.op.length : Nat) : Int)), (98, .int .i64 ((j : Nat) : Int)), (99, .bool true), (100, .pointer (some ⟨b48, o49 + j * 4, none⟩)), (101, .agg #[.int .i64 x46.t.id, .int .i64 x46.t.ts, .slice x46.ra x46.t.reads.length x46.rc, .slice x46.wa x46.t.writes.length x46.wc]), (22, .pointer (some ⟨g51, 0, none⟩)), (102, .pointer (some ⟨g51, 3, none⟩)), (103, .slice x46.wa x46.t.writes.length x46.wc), (104, .int .i64 ((x46.t.writes.length : Nat) : Int)), (105, .int .i64 (((i : Nat) : Int) + 1)), (106, .bool true), (107, .pointer (some ⟨b59, o60 + i * 3, none⟩)), (108, .agg #[.int .i64 x57.key, .int .i64 x57.value, .bool x57.gone]), (24, .pointer (some ⟨g62, 0, none⟩)), (109, .pointer (some ⟨g62, 0, none⟩)), (110, .int .i64 x57.key), (111, .int .i64 key), (112, .bool (x57.key == key)), (113, .bool false), (118, .bool false), (119, .bool false), (125, .bool false), (134, .int .i64 (((i : Nat) : Int) + 1))]) ⟨rfl, rfl, rfl, rfl, rfl, rfl, rfl, rfl, rfl, rfl, rfl, rfl, rfl, rfl, rfl, rfl, rfl, rfl, rfl, rfl, rfl, rfl, rfl, rfl, rfl, rfl, rfl, rfl, rfl, rfl, rfl, rfl, trivial⟩
                      refine xt_norm ?_
                      replace hK := hK.sub (d := 105) (v' := .int .i64 (((i + 1) : Nat) : Int)) rfl (by first | rfl | (congr 1; omega))
                      have hb := bst_w key ts (L.st ++ ((txs L.op).take j).flatMap verT) hx58
                      rw [bst_miss (by show ¬(x57.key = key ∧ x46.t.ts ≤ ts ∧ _ < x46.t.ts); omega)] at hb
                      refine ⟨i + 1, ⟨hK.weak ⟨rfl, rfl, rfl, rfl, rfl, rfl, rfl, rfl, rfl, rfl, rfl, rfl, rfl, rfl, rfl, rfl, rfl, rfl, rfl, trivial⟩, (by rw [hb]; exact hE.drop (.cons _ (.cons_cons _ (.cons_cons _ (.cons_cons _ (.cons_cons _ (.cons_cons _ (.cons_cons _ (.cons_cons _ (.cons_cons _ (.cons_cons _ (.cons_cons _ (.cons_cons _ (.cons_cons _ (.cons_cons _ (.cons _ (.cons _ (.cons_cons _ (.cons_cons _ .slnil))))))))))))))))))), by omega, trivial⟩, by omega⟩
                  · have hc56p := of_decide_eq_false hc56
                    replace hK := hK.sub (d := 106) (v' := .bool false) rfl (congrArg Value.bool hc56)
                    refine vc_cond (t := false) hK (fun _ => rfl) ?_
                    rw [if_neg (by simp)]
                    refine wp_exit ?_
                    refine xt_exit ?_
                    refine xt_exit ?_
                    refine xb_hit ?_
                    refine xb_norm ?_
                    refine xt_norm ?_
                    refine wp_region_lit ?_
                    refine st_op (d := 135) (v' := .int .i64 (IntKind.i64.wrap (((j : Nat) : Int) + 1))) (v := .int .i64 (((j : Nat) : Int) + 1)) (vs := []) (obs := []) hK rfl (fun _ => by kernel_rfl) trivial (congrArg (Value.int .i64) (IntWalk.i64_in _ (by omega))) rfl rfl ?_
                    clear hK a; intro a hK
                    refine st_op (d := 98) (v' := .int .i64 (((j : Nat) : Int) + 1)) (vs := []) (obs := []) hK rfl (fun _ => by kernel_rfl) trivial rfl rfl rfl ?_
                    clear hK a; intro a hK
                    refine wpList_nil ?_
                    refine xt_norm ?_
                    replace hK := hK.sub (d := 98) (v' := .int .i64 (((j + 1) : Nat) : Int)) rfl (by first | rfl | (congr 1; omega))
                    have hb2 := bst_next key ts L.st (txs_at hx47) (i := i) (by omega)
                    refine ⟨j + 1, ⟨hK.weak ⟨rfl, rfl, rfl, rfl, rfl, rfl, rfl, rfl, rfl, rfl, rfl, trivial⟩, (by rw [hb2]; exact hE.drop (.cons _ (.cons_cons _ (.cons_cons _ (.cons_cons _ (.cons_cons _ (.cons_cons _ (.cons_cons _ (.cons_cons _ (.cons_cons _ (.cons_cons _ (.cons _ (.cons _ (.cons_cons _ (.cons _ (.cons_cons _ .slnil)))))))))))))))), by omega, trivial⟩, by omega⟩
              · have hc45p := of_decide_eq_false hc45
                have hBj : bstF key ts (L.st ++ ((txs L.op).take j).flatMap verT) = bstF key ts ((LdV.d L).st ++ (LdV.d L).op.flatMap verT) := by rw [List.take_of_length_le (by rw [txs_len]; omega)]; rfl
                rw [← hBj] at hrl
                replace hK := hK.sub (d := 99) (v' := .bool false) rfl (congrArg Value.bool hc45)
                refine vc_cond (t := false) hK (fun _ => rfl) ?_
                rw [if_neg (by simp)]
                refine wp_exit ?_
                refine xt_exit ?_
                refine xt_exit ?_
                refine xb_hit ?_
                refine xt_norm ?_
                refine wp_seq ?_
                refine wp_region_lit ?_
                refine st_op (d := 137) (v' := .pointer (some ⟨g17, 1, none⟩)) (vs := []) (obs := []) hK rfl (fun _ => by kernel_rfl) trivial rfl rfl rfl ?_
                clear hK a; intro a hK
                refine st_op (d := 138) (v' := .slice M12.sa M12.st.length M12.sc) (vs := [.slice M12.sa M12.st.length M12.sc]) (obs := [(⟨g17, 1, none⟩, .slice M12.sa M12.st.length M12.sc)]) hK rfl (fun _ => by kernel_rfl) ⟨((hE.blk 2 rfl).cell 1).trans rfl, trivial⟩ rfl rfl rfl ?_
                clear hK a; intro a hK
                refine st_op (d := 139) (v' := .int .i64 key) (vs := []) (obs := []) hK rfl (fun _ => by kernel_rfl) trivial rfl rfl rfl ?_
                clear hK a; intro a hK
                refine st_op (d := 140) (v' := .int .i64 ts) (vs := []) (obs := []) hK rfl (fun _ => by kernel_rfl) trivial rfl rfl rfl ?_
                clear hK a; intro a hK
                refine st_call (d := 141) (f := 30) (args := #[.slice M12.sa M12.st.length M12.sc, .int .i64 key, .int .i64 ts]) hK rfl (fun _ => by kernel_rfl) rfl rfl (at_any M12.sa M12.sc M12.st key ts _ (by have := hLSM12.st; omega) (LdW.s (hE.get 4 rfl))) ?_
                rintro e w69 ⟨rfl, hb⟩
                refine ⟨_, rfl, ?_⟩
                clear hK a; intro a hK
                replace hE := hE.call hb
                clear hb
                refine st_op (d := 136) (v' := .tuple #[.agg #[.int .i64 (atS M12.st key ts).1.key, .int .i64 (atS M12.st key ts).1.ts, .int .i64 (atS M12.st key ts).1.value, .bool (atS M12.st key ts).1.gone], .bool (atS M12.st key ts).2.1, .int .i64 (atS M12.st key ts).2.2]) (vs := []) (obs := []) hK rfl (fun _ => by kernel_rfl) trivial rfl rfl rfl ?_
                clear hK a; intro a hK
                refine st_op (d := 142) (v' := .agg #[.int .i64 (atS M12.st key ts).1.key, .int .i64 (atS M12.st key ts).1.ts, .int .i64 (atS M12.st key ts).1.value, .bool (atS M12.st key ts).1.gone]) (vs := []) (obs := []) hK rfl (fun _ => by kernel_rfl) trivial rfl rfl rfl ?_
                clear hK a; intro a hK
                refine st_op (d := 143) (v' := .bool (atS M12.st key ts).2.1) (vs := []) (obs := []) hK rfl (fun _ => by kernel_rfl) trivial rfl rfl rfl ?_
                clear hK a; intro a hK
                refine st_op (d := 144) (v' := .int .i64 (atS M12.st key ts).2.2) (vs := []) (obs := []) hK rfl (fun _ => by kernel_rfl) trivial rfl rfl rfl ?_
                clear hK a; intro a hK
                refine st_new (d := 25) (v := fun g => .pointer (some ⟨g, 0, none⟩)) (cs := #[.int .i64 0, .int .i64 0, .int .i64 0, .bool false]) (t := 44) hK hE rfl (fun _ _ => by kernel_rfl) rfl rfl ?_
                clear hK hE a; intro a g70 w71 _ _ hK hE
                refine st_store2 0 [(0, .int .i64 (atS M12.st key ts).1.key), (1, .int .i64 (atS M12.st key ts).1.ts), (2, .int .i64 (atS M12.st key ts).1.value), (3, .bool (atS M12.st key ts).1.gone)] hK hE rfl rfl (fun _ => by kernel_rfl) rfl rfl rfl ?_
                clear hE; intro w72 hs_ hk_ hE
                clear hs_ hk_
                refine st_op (d := 26) (v' := .bool (atS M12.st key ts).2.1) (vs := []) (obs := []) hK rfl (fun _ => by kernel_rfl) trivial rfl rfl rfl ?_
                clear hK a; intro a hK
                refine st_op (d := 27) (v' := .int .i64 (atS M12.st key ts).2.2) (vs := []) (obs := []) hK rfl (fun _ => by kernel_rfl) trivial rfl rfl rfl ?_
                clear hK a; intro a hK
                refine wpList_nil ?_
                refine xt_norm ?_
                refine wp_seq ?_
                refine wp_region_lit ?_
                refine st_op (d := 145) (v' := .pointer (some ⟨g26, 1, none⟩)) (vs := []) (obs := []) hK rfl (fun _ => by kernel_rfl) trivial rfl rfl rfl ?_
                clear hK a; intro a hK
                refine st_op (d := 146) (v' := .int .i64 (bstF key ts (L.st ++ ((txs L.op).take j).flatMap verT)).ts) (vs := [.int .i64 (bstF key ts (L.st ++ ((txs L.op).take j).flatMap verT)).ts]) (obs := [(⟨g26, 1, none⟩, .int .i64 (bstF key ts (L.st ++ ((txs L.op).take j).flatMap verT)).ts)]) hK rfl (fun _ => by kernel_rfl) ⟨((hE.blk 1 rfl).cell 1).trans rfl, trivial⟩ rfl rfl rfl ?_
                clear hK a; intro a hK
                refine st_op (d := 147) (v' := .bool ((bstF key ts (L.st ++ ((txs L.op).take j).flatMap verT)).ts == 0)) (vs := []) (obs := []) hK rfl (fun _ => by kernel_rfl) trivial rfl rfl rfl ?_
                clear hK a; intro a hK
                refine st_op (d := 148) (v' := .bool ((bstF key ts (L.st ++ ((txs L.op).take j).flatMap verT)).ts == 0)) (vs := []) (obs := []) hK rfl (fun _ => by kernel_rfl) trivial rfl rfl rfl ?_
                clear hK a; intro a hK
                rcases Bool.eq_false_or_eq_true (((bstF key ts (L.st ++ ((txs L.op).take j).flatMap verT)).ts == 0)) with hc73 | hc73
                · have hc73p := eq_of_beq hc73
                  replace hK := hK.sub (d := 148) (v' := .bool true) rfl (congrArg Value.bool hc73)
                  refine st_skip (d := 149) hK rfl rfl rfl ?_
                  clear hK a; intro a hK
                  refine st_skip (d := 150) hK rfl rfl rfl ?_
                  clear hK a; intro a hK
                  refine st_op (d := 151) (v' := .bool true) (vs := []) (obs := []) hK rfl (fun _ => by kernel_rfl) trivial rfl rfl rfl ?_
                  clear hK a; intro a hK
                  refine st_op (d := 28) (v' := .bool true) (vs := []) (obs := []) hK rfl (fun _ => by kernel_rfl) trivial rfl rfl rfl ?_
                  clear hK a; intro a hK
                  refine wpList_nil ?_
                  replace hK := hK.weak (K' := [(10, .bool false), (11, .bool true), (15, .pointer (some ⟨g22, 0, none⟩)), (16, .bool (readLL M12.d key ts lo hi).2.1), (18, .pointer (some ⟨g26, 0, none⟩)), (25, .pointer (some ⟨g70, 0, none⟩)), (26, .bool (atS M12.st key ts).2.1), (27, .int .i64 (atS M12.st key ts).2.2), (28, .bool true)]) ⟨rfl, rfl, rfl, rfl, rfl, rfl, rfl, rfl, rfl, trivial⟩
                  refine xt_norm ?_
                  refine wp_seq ?_
                  refine wp_seq ?_
                  refine wp_region_lit ?_
                  refine st_op (d := 152) (v' := .bool true) (vs := []) (obs := []) hK rfl (fun _ => by kernel_rfl) trivial rfl rfl rfl ?_
                  clear hK a; intro a hK
                  refine wpList_nil ?_
                  refine xt_norm ?_
                  refine vc_cond (t := true) hK (fun _ => rfl) ?_
                  rw [if_pos rfl]
                  refine wp_region_lit ?_
                  refine st_op (d := 153) (v' := .agg #[.int .i64 0, .int .i64 0, .int .i64 0, .bool false]) (vs := []) (obs := []) hK rfl (fun _ => by kernel_rfl) trivial rfl rfl rfl ?_
                  clear hK a; intro a hK
                  refine st_store2 1 [(0, .int .i64 0), (1, .int .i64 0), (2, .int .i64 0), (3, .bool false)] hK hE rfl rfl (fun _ => by kernel_rfl) rfl rfl rfl ?_
                  clear hE; intro w74 hs_ hk_ hE
                  clear hs_ hk_
                  refine wpList_nil ?_
                  refine xt_norm ?_
                  refine wp_seq ?_
                  refine wp_region_lit ?_
                  refine st_op (d := 154) (v' := .bool true) (vs := []) (obs := []) hK rfl (fun _ => by kernel_rfl) trivial rfl rfl rfl ?_
                  clear hK a; intro a hK
                  refine st_op (d := 155) (v' := .bool true) (vs := []) (obs := []) hK rfl (fun _ => by kernel_rfl) trivial rfl rfl rfl ?_
                  clear hK a; intro a hK
                  refine st_op (d := 156) (v' := .int .i64 (atS M12.st key ts).2.2) (vs := []) (obs := []) hK rfl (fun _ => by kernel_rfl) trivial rfl rfl rfl ?_
                  clear hK a; intro a hK
                  refine st_op (d := 157) (v' := .bool ((atS M12.st key ts).2.2 == 0)) (vs := []) (obs := []) hK rfl (fun _ => by kernel_rfl) trivial rfl rfl rfl ?_
                  clear hK a; intro a hK
                  refine st_op (d := 158) (v' := .bool ((atS M12.st key ts).2.2 == 0)) (vs := []) (obs := []) hK rfl (fun _ => by kernel_rfl) trivial rfl rfl rfl ?_
                  clear hK a; intro a hK
                  refine st_op (d := 159) (v' := .bool ((atS M12.st key ts).2.2 == 0)) (vs := []) (obs := []) hK rfl (fun _ => by kernel_rfl) trivial rfl rfl rfl ?_
                  clear hK a; intro a hK
                  have hSS : (atS M12.st key ts) = (Ver.zero, false, (0 : Int)) := hrl.2.trans (if_pos (.inl hc73p))
                  have hRR : (readLL M12.d key ts lo hi) = (Ver.zero, false, (0 : Int)) := hrl.1.trans hSS
                  have hd75 : (((atS M12.st key ts).2.2 == 0)) = true := by rw [hSS]; rfl
                  replace hK := hK.sub (d := 159) (v' := .bool true) rfl (congrArg Value.bool hd75)
                  refine st_op (d := 160) (v' := .agg #[.int .i64 (readLL M12.d key ts lo hi).1.key, .int .i64 (readLL M12.d key ts lo hi).1.ts, .int .i64 (readLL M12.d key ts lo hi).1.value, .bool (readLL M12.d key ts lo hi).1.gone]) (vs := [.int .i64 (readLL M12.d key ts lo hi).1.key, .int .i64 (readLL M12.d key ts lo hi).1.ts, .int .i64 (readLL M12.d key ts lo hi).1.value, .bool (readLL M12.d key ts lo hi).1.gone]) (obs := [(⟨g22, 0, none⟩, .int .i64 (readLL M12.d key ts lo hi).1.key), (⟨g22, 1, none⟩, .int .i64 (readLL M12.d key ts lo hi).1.ts), (⟨g22, 2, none⟩, .int .i64 (readLL M12.d key ts lo hi).1.value), (⟨g22, 3, none⟩, .bool (readLL M12.d key ts lo hi).1.gone)]) hK rfl (fun _ => by kernel_rfl) ⟨((hE.blk 2 rfl).cell 0).trans rfl, ((hE.blk 2 rfl).cell 1).trans rfl, ((hE.blk 2 rfl).cell 2).trans rfl, ((hE.blk 2 rfl).cell 3).trans rfl, trivial⟩ rfl rfl rfl ?_
                  clear hK a; intro a hK
                  refine st_op (d := 161) (v' := .agg #[.int .i64 (atS M12.st key ts).1.key, .int .i64 (atS M12.st key ts).1.ts, .int .i64 (atS M12.st key ts).1.value, .bool (atS M12.st key ts).1.gone]) (vs := [.int .i64 (atS M12.st key ts).1.key, .int .i64 (atS M12.st key ts).1.ts, .int .i64 (atS M12.st key ts).1.value, .bool (atS M12.st key ts).1.gone]) (obs := [(⟨g70, 0, none⟩, .int .i64 (atS M12.st key ts).1.key), (⟨g70, 1, none⟩, .int .i64 (atS M12.st key ts).1.ts), (⟨g70, 2, none⟩, .int .i64 (atS M12.st key ts).1.value), (⟨g70, 3, none⟩, .bool (atS M12.st key ts).1.gone)]) hK rfl (fun _ => by kernel_rfl) ⟨((hE.blk 0 rfl).cell 0).trans rfl, ((hE.blk 0 rfl).cell 1).trans rfl, ((hE.blk 0 rfl).cell 2).trans rfl, ((hE.blk 0 rfl).cell 3).trans rfl, trivial⟩ rfl rfl rfl ?_
                  clear hK a; intro a hK
                  refine st_run (d := 162) (v' := .bool (eqB (readLL M12.d key ts lo hi).1.key (readLL M12.d key ts lo hi).1.ts (readLL M12.d key ts lo hi).1.value (readLL M12.d key ts lo hi).1.gone (atS M12.st key ts).1.key (atS M12.st key ts).1.ts (atS M12.st key ts).1.value (atS M12.st key ts).1.gone)) hK rfl (ex_eq rfl (fun _ => rfl) (fun _ => rfl) (by kernel_rfl) (fun W => eqlV (readLL M12.d key ts lo hi).1.key (readLL M12.d key ts lo hi).1.ts (readLL M12.d key ts lo hi).1.value (atS M12.st key ts).1.key (atS M12.st key ts).1.ts (atS M12.st key ts).1.value (readLL M12.d key ts lo hi).1.gone (atS M12.st key ts).1.gone W)) rfl rfl rfl ?_
                  clear hK a; intro a hK
                  refine st_op (d := 163) (v' := .bool (eqB (readLL M12.d key ts lo hi).1.key (readLL M12.d key ts lo hi).1.ts (readLL M12.d key ts lo hi).1.value (readLL M12.d key ts lo hi).1.gone (atS M12.st key ts).1.key (atS M12.st key ts).1.ts (atS M12.st key ts).1.value (atS M12.st key ts).1.gone)) (vs := []) (obs := []) hK rfl (fun _ => by kernel_rfl) trivial rfl rfl rfl ?_
                  clear hK a; intro a hK
                  refine st_op (d := 164) (v' := .bool (eqB (readLL M12.d key ts lo hi).1.key (readLL M12.d key ts lo hi).1.ts (readLL M12.d key ts lo hi).1.value (readLL M12.d key ts lo hi).1.gone (atS M12.st key ts).1.key (atS M12.st key ts).1.ts (atS M12.st key ts).1.value (atS M12.st key ts).1.gone)) (vs := []) (obs := []) hK rfl (fun _ => by kernel_rfl) trivial rfl rfl rfl ?_
                  clear hK a; intro a hK
                  have hd76 : (eqB (readLL M12.d key ts lo hi).1.key (readLL M12.d key ts lo hi).1.ts (readLL M12.d key ts lo hi).1.value (readLL M12.d key ts lo hi).1.gone (atS M12.st key ts).1.key (atS M12.st key ts).1.ts (atS M12.st key ts).1.value (atS M12.st key ts).1.gone) = true := by rw [hRR, hSS]; exact decide_eq_true rfl
                  replace hK := hK.sub (d := 164) (v' := .bool true) rfl (congrArg Value.bool hd76)
                  refine st_op (d := 165) (v' := .bool (readLL M12.d key ts lo hi).2.1) (vs := []) (obs := []) hK rfl (fun _ => by kernel_rfl) trivial rfl rfl rfl ?_
                  clear hK a; intro a hK
                  refine st_op (d := 166) (v' := .bool (atS M12.st key ts).2.1) (vs := []) (obs := []) hK rfl (fun _ => by kernel_rfl) trivial rfl rfl rfl ?_
                  clear hK a; intro a hK
                  refine st_op (d := 167) (v' := .bool ((readLL M12.d key ts lo hi).2.1 == (atS M12.st key ts).2.1)) (vs := []) (obs := []) hK rfl (fun _ => by kernel_rfl) trivial rfl rfl rfl ?_
                  clear hK a; intro a hK
                  refine st_op (d := 168) (v' := .bool ((readLL M12.d key ts lo hi).2.1 == (atS M12.st key ts).2.1)) (vs := []) (obs := []) hK rfl (fun _ => by kernel_rfl) trivial rfl rfl rfl ?_
                  clear hK a; intro a hK
                  refine st_op (d := 169) (v' := .bool ((readLL M12.d key ts lo hi).2.1 == (atS M12.st key ts).2.1)) (vs := []) (obs := []) hK rfl (fun _ => by kernel_rfl) trivial rfl rfl rfl ?_
                  clear hK a; intro a hK
                  have hd77 : (((readLL M12.d key ts lo hi).2.1 == (atS M12.st key ts).2.1)) = true := by rw [hRR, hSS]; exact beq_self_eq_true _
                  replace hK := hK.sub (d := 169) (v' := .bool true) rfl (congrArg Value.bool hd77)
                  refine st_op (d := 170) (v' := .bool (readLL M12.d key ts lo hi).2.1) (vs := []) (obs := []) hK rfl (fun _ => by kernel_rfl) trivial rfl rfl rfl ?_
                  clear hK a; intro a hK
                  refine st_op (d := 171) (v' := .bool true) (vs := []) (obs := []) hK rfl (fun _ => by kernel_rfl) trivial rfl rfl rfl ?_
                  clear hK a; intro a hK
                  refine st_op (d := 172) (v' := .bool false) (vs := []) (obs := []) hK rfl (fun _ => by kernel_rfl) trivial rfl rfl rfl ?_
                  clear hK a; intro a hK
                  refine st_op (d := 173) (v' := .bool ((readLL M12.d key ts lo hi).2.1 == false)) (vs := []) (obs := []) hK rfl (fun _ => by kernel_rfl) trivial rfl rfl rfl ?_
                  clear hK a; intro a hK
                  refine st_op (d := 174) (v' := .bool ((readLL M12.d key ts lo hi).2.1 == false)) (vs := []) (obs := []) hK rfl (fun _ => by kernel_rfl) trivial rfl rfl rfl ?_
                  clear hK a; intro a hK
                  refine st_op (d := 175) (v' := .bool ((readLL M12.d key ts lo hi).2.1 == false)) (vs := []) (obs := []) hK rfl (fun _ => by kernel_rfl) trivial rfl rfl rfl ?_
                  clear hK a; intro a hK
                  have hd78 : (((readLL M12.d key ts lo hi).2.1 == false)) = true := by rw [hRR]; rfl
                  replace hK := hK.sub (d := 175) (v' := .bool true) rfl (congrArg Value.bool hd78)
                  refine st_op (d := 176) (v' := .agg #[.int .i64 (readLL M12.d key ts lo hi).1.key, .int .i64 (readLL M12.d key ts lo hi).1.ts, .int .i64 (readLL M12.d key ts lo hi).1.value, .bool (readLL M12.d key ts lo hi).1.gone]) (vs := [.int .i64 (readLL M12.d key ts lo hi).1.key, .int .i64 (readLL M12.d key ts lo hi).1.ts, .int .i64 (readLL M12.d key ts lo hi).1.value, .bool (readLL M12.d key ts lo hi).1.gone]) (obs := [(⟨g22, 0, none⟩, .int .i64 (readLL M12.d key ts lo hi).1.key), (⟨g22, 1, none⟩, .int .i64 (readLL M12.d key ts lo hi).1.ts), (⟨g22, 2, none⟩, .int .i64 (readLL M12.d key ts lo hi).1.value), (⟨g22, 3, none⟩, .bool (readLL M12.d key ts lo hi).1.gone)]) hK rfl (fun _ => by kernel_rfl) ⟨((hE.blk 2 rfl).cell 0).trans rfl, ((hE.blk 2 rfl).cell 1).trans rfl, ((hE.blk 2 rfl).cell 2).trans rfl, ((hE.blk 2 rfl).cell 3).trans rfl, trivial⟩ rfl rfl rfl ?_
                  clear hK a; intro a hK
                  refine st_op (d := 177) (v' := .agg #[.int .i64 0, .int .i64 0, .int .i64 0, .bool false]) (vs := [.int .i64 0, .int .i64 0, .int .i64 0, .bool false]) (obs := [(⟨g26, 0, none⟩, .int .i64 0), (⟨g26, 1, none⟩, .int .i64 0), (⟨g26, 2, none⟩, .int .i64 0), (⟨g26, 3, none⟩, .bool false)]) hK rfl (fun _ => by kernel_rfl) ⟨((hE.blk 1 rfl).cell 0).trans rfl, ((hE.blk 1 rfl).cell 1).trans rfl, ((hE.blk 1 rfl).cell 2).trans rfl, ((hE.blk 1 rfl).cell 3).trans rfl, trivial⟩ rfl rfl rfl ?_
                  clear hK a; intro a hK
                  refine st_run (d := 178) (v' := .bool (eqB (readLL M12.d key ts lo hi).1.key (readLL M12.d key ts lo hi).1.ts (readLL M12.d key ts lo hi).1.value (readLL M12.d key ts lo hi).1.gone 0 0 0 false)) hK rfl (ex_eq rfl (fun _ => rfl) (fun _ => rfl) (by kernel_rfl) (fun W => eqlV (readLL M12.d key ts lo hi).1.key (readLL M12.d key ts lo hi).1.ts (readLL M12.d key ts lo hi).1.value 0 0 0 (readLL M12.d key ts lo hi).1.gone false W)) rfl rfl rfl ?_
                  clear hK a; intro a hK
                  refine st_op (d := 179) (v' := .bool (eqB (readLL M12.d key ts lo hi).1.key (readLL M12.d key ts lo hi).1.ts (readLL M12.d key ts lo hi).1.value (readLL M12.d key ts lo hi).1.gone 0 0 0 false)) (vs := []) (obs := []) hK rfl (fun _ => by kernel_rfl) trivial rfl rfl rfl ?_
                  clear hK a; intro a hK
                  refine st_op (d := 10) (v' := .bool (eqB (readLL M12.d key ts lo hi).1.key (readLL M12.d key ts lo hi).1.ts (readLL M12.d key ts lo hi).1.value (readLL M12.d key ts lo hi).1.gone 0 0 0 false)) (vs := []) (obs := []) hK rfl (fun _ => by kernel_rfl) trivial rfl rfl rfl ?_
                  clear hK a; intro a hK
                  refine wpList_nil ?_
                  replace hK := hK.weak (K' := [(10, .bool (eqB (readLL M12.d key ts lo hi).1.key (readLL M12.d key ts lo hi).1.ts (readLL M12.d key ts lo hi).1.value (readLL M12.d key ts lo hi).1.gone 0 0 0 false))]) ⟨rfl, trivial⟩
                  refine xt_norm ?_
                  refine wp_ret ?_
                  have hd79 : (eqB (readLL M12.d key ts lo hi).1.key (readLL M12.d key ts lo hi).1.ts (readLL M12.d key ts lo hi).1.value (readLL M12.d key ts lo hi).1.gone 0 0 0 false) = true := by rw [hRR]; exact decide_eq_true rfl
                  replace hK := hK.sub (d := 10) (v' := .bool true) rfl (congrArg Value.bool hd79)
                  refine vc_ret (v' := .bool true) (vs := []) (obs := []) hK (fun _ => by kernel_rfl) trivial rfl ?_
                  exact ⟨rfl, hE.b⟩
                · have hc73p := ne_of_beq_false hc73
                  replace hK := hK.sub (d := 148) (v' := .bool false) rfl (congrArg Value.bool hc73)
                  refine st_op (d := 149) (v' := .pointer (some ⟨g26, 3, none⟩)) (vs := []) (obs := []) hK rfl (fun _ => by kernel_rfl) trivial rfl rfl rfl ?_
                  clear hK a; intro a hK
                  refine st_op (d := 150) (v' := .bool (bstF key ts (L.st ++ ((txs L.op).take j).flatMap verT)).gone) (vs := [.bool (bstF key ts (L.st ++ ((txs L.op).take j).flatMap verT)).gone]) (obs := [(⟨g26, 3, none⟩, .bool (bstF key ts (L.st ++ ((txs L.op).take j).flatMap verT)).gone)]) hK rfl (fun _ => by kernel_rfl) ⟨((hE.blk 1 rfl).cell 3).trans rfl, trivial⟩ rfl rfl rfl ?_
                  clear hK a; intro a hK
                  refine st_op (d := 151) (v' := .bool (bstF key ts (L.st ++ ((txs L.op).take j).flatMap verT)).gone) (vs := []) (obs := []) hK rfl (fun _ => by kernel_rfl) trivial rfl rfl rfl ?_
                  clear hK a; intro a hK
                  refine st_op (d := 28) (v' := .bool (bstF key ts (L.st ++ ((txs L.op).take j).flatMap verT)).gone) (vs := []) (obs := []) hK rfl (fun _ => by kernel_rfl) trivial rfl rfl rfl ?_
                  clear hK a; intro a hK
                  refine wpList_nil ?_
                  replace hK := hK.weak (K' := [(10, .bool false), (11, .bool true), (15, .pointer (some ⟨g22, 0, none⟩)), (16, .bool (readLL M12.d key ts lo hi).2.1), (18, .pointer (some ⟨g26, 0, none⟩)), (25, .pointer (some ⟨g70, 0, none⟩)), (26, .bool (atS M12.st key ts).2.1), (27, .int .i64 (atS M12.st key ts).2.2), (28, .bool (bstF key ts (L.st ++ ((txs L.op).take j).flatMap verT)).gone)]) ⟨rfl, rfl, rfl, rfl, rfl, rfl, rfl, rfl, rfl, trivial⟩
                  refine xt_norm ?_
                  refine wp_seq ?_
                  refine wp_seq ?_
                  refine wp_region_lit ?_
                  refine st_op (d := 152) (v' := .bool (bstF key ts (L.st ++ ((txs L.op).take j).flatMap verT)).gone) (vs := []) (obs := []) hK rfl (fun _ => by kernel_rfl) trivial rfl rfl rfl ?_
                  clear hK a; intro a hK
                  refine wpList_nil ?_
                  refine xt_norm ?_
                  rcases Bool.eq_false_or_eq_true ((bstF key ts (L.st ++ ((txs L.op).take j).flatMap verT)).gone) with hc80 | hc80
                  · replace hK := hK.sub (d := 152) (v' := .bool true) rfl (congrArg Value.bool hc80)
                    refine vc_cond (t := true) hK (fun _ => rfl) ?_
                    rw [if_pos rfl]
                    refine wp_region_lit ?_
                    refine st_op (d := 153) (v' := .agg #[.int .i64 0, .int .i64 0, .int .i64 0, .bool false]) (vs := []) (obs := []) hK rfl (fun _ => by kernel_rfl) trivial rfl rfl rfl ?_
                    clear hK a; intro a hK
                    refine st_store2 1 [(0, .int .i64 0), (1, .int .i64 0), (2, .int .i64 0), (3, .bool false)] hK hE rfl rfl (fun _ => by kernel_rfl) rfl rfl rfl ?_
                    clear hE; intro w81 hs_ hk_ hE
                    clear hs_ hk_
                    refine wpList_nil ?_
                    refine xt_norm ?_
                    refine wp_seq ?_
                    refine wp_region_lit ?_
                    refine st_op (d := 154) (v' := .bool true) (vs := []) (obs := []) hK rfl (fun _ => by kernel_rfl) trivial rfl rfl rfl ?_
                    clear hK a; intro a hK
                    refine st_op (d := 155) (v' := .bool true) (vs := []) (obs := []) hK rfl (fun _ => by kernel_rfl) trivial rfl rfl rfl ?_
                    clear hK a; intro a hK
                    refine st_op (d := 156) (v' := .int .i64 (atS M12.st key ts).2.2) (vs := []) (obs := []) hK rfl (fun _ => by kernel_rfl) trivial rfl rfl rfl ?_
                    clear hK a; intro a hK
                    refine st_op (d := 157) (v' := .bool ((atS M12.st key ts).2.2 == 0)) (vs := []) (obs := []) hK rfl (fun _ => by kernel_rfl) trivial rfl rfl rfl ?_
                    clear hK a; intro a hK
                    refine st_op (d := 158) (v' := .bool ((atS M12.st key ts).2.2 == 0)) (vs := []) (obs := []) hK rfl (fun _ => by kernel_rfl) trivial rfl rfl rfl ?_
                    clear hK a; intro a hK
                    refine st_op (d := 159) (v' := .bool ((atS M12.st key ts).2.2 == 0)) (vs := []) (obs := []) hK rfl (fun _ => by kernel_rfl) trivial rfl rfl rfl ?_
                    clear hK a; intro a hK
                    have hSS : (atS M12.st key ts) = (Ver.zero, false, (0 : Int)) := hrl.2.trans (if_pos (.inr hc80))
                    have hRR : (readLL M12.d key ts lo hi) = (Ver.zero, false, (0 : Int)) := hrl.1.trans hSS
                    have hd82 : (((atS M12.st key ts).2.2 == 0)) = true := by rw [hSS]; rfl
                    replace hK := hK.sub (d := 159) (v' := .bool true) rfl (congrArg Value.bool hd82)
                    refine st_op (d := 160) (v' := .agg #[.int .i64 (readLL M12.d key ts lo hi).1.key, .int .i64 (readLL M12.d key ts lo hi).1.ts, .int .i64 (readLL M12.d key ts lo hi).1.value, .bool (readLL M12.d key ts lo hi).1.gone]) (vs := [.int .i64 (readLL M12.d key ts lo hi).1.key, .int .i64 (readLL M12.d key ts lo hi).1.ts, .int .i64 (readLL M12.d key ts lo hi).1.value, .bool (readLL M12.d key ts lo hi).1.gone]) (obs := [(⟨g22, 0, none⟩, .int .i64 (readLL M12.d key ts lo hi).1.key), (⟨g22, 1, none⟩, .int .i64 (readLL M12.d key ts lo hi).1.ts), (⟨g22, 2, none⟩, .int .i64 (readLL M12.d key ts lo hi).1.value), (⟨g22, 3, none⟩, .bool (readLL M12.d key ts lo hi).1.gone)]) hK rfl (fun _ => by kernel_rfl) ⟨((hE.blk 2 rfl).cell 0).trans rfl, ((hE.blk 2 rfl).cell 1).trans rfl, ((hE.blk 2 rfl).cell 2).trans rfl, ((hE.blk 2 rfl).cell 3).trans rfl, trivial⟩ rfl rfl rfl ?_
                    clear hK a; intro a hK
                    refine st_op (d := 161) (v' := .agg #[.int .i64 (atS M12.st key ts).1.key, .int .i64 (atS M12.st key ts).1.ts, .int .i64 (atS M12.st key ts).1.value, .bool (atS M12.st key ts).1.gone]) (vs := [.int .i64 (atS M12.st key ts).1.key, .int .i64 (atS M12.st key ts).1.ts, .int .i64 (atS M12.st key ts).1.value, .bool (atS M12.st key ts).1.gone]) (obs := [(⟨g70, 0, none⟩, .int .i64 (atS M12.st key ts).1.key), (⟨g70, 1, none⟩, .int .i64 (atS M12.st key ts).1.ts), (⟨g70, 2, none⟩, .int .i64 (atS M12.st key ts).1.value), (⟨g70, 3, none⟩, .bool (atS M12.st key ts).1.gone)]) hK rfl (fun _ => by kernel_rfl) ⟨((hE.blk 0 rfl).cell 0).trans rfl, ((hE.blk 0 rfl).cell 1).trans rfl, ((hE.blk 0 rfl).cell 2).trans rfl, ((hE.blk 0 rfl).cell 3).trans rfl, trivial⟩ rfl rfl rfl ?_
                    clear hK a; intro a hK
                    refine st_run (d := 162) (v' := .bool (eqB (readLL M12.d key ts lo hi).1.key (readLL M12.d key ts lo hi).1.ts (readLL M12.d key ts lo hi).1.value (readLL M12.d key ts lo hi).1.gone (atS M12.st key ts).1.key (atS M12.st key ts).1.ts (atS M12.st key ts).1.value (atS M12.st key ts).1.gone)) hK rfl (ex_eq rfl (fun _ => rfl) (fun _ => rfl) (by kernel_rfl) (fun W => eqlV (readLL M12.d key ts lo hi).1.key (readLL M12.d key ts lo hi).1.ts (readLL M12.d key ts lo hi).1.value (atS M12.st key ts).1.key (atS M12.st key ts).1.ts (atS M12.st key ts).1.value (readLL M12.d key ts lo hi).1.gone (atS M12.st key ts).1.gone W)) rfl rfl rfl ?_
                    clear hK a; intro a hK
                    refine st_op (d := 163) (v' := .bool (eqB (readLL M12.d key ts lo hi).1.key (readLL M12.d key ts lo hi).1.ts (readLL M12.d key ts lo hi).1.value (readLL M12.d key ts lo hi).1.gone (atS M12.st key ts).1.key (atS M12.st key ts).1.ts (atS M12.st key ts).1.value (atS M12.st key ts).1.gone)) (vs := []) (obs := []) hK rfl (fun _ => by kernel_rfl) trivial rfl rfl rfl ?_
                    clear hK a; intro a hK
                    refine st_op (d := 164) (v' := .bool (eqB (readLL M12.d key ts lo hi).1.key (readLL M12.d key ts lo hi).1.ts (readLL M12.d key ts lo hi).1.value (readLL M12.d key ts lo hi).1.gone (atS M12.st key ts).1.key (atS M12.st key ts).1.ts (atS M12.st key ts).1.value (atS M12.st key ts).1.gone)) (vs := []) (obs := []) hK rfl (fun _ => by kernel_rfl) trivial rfl rfl rfl ?_
                    clear hK a; intro a hK
                    have hd83 : (eqB (readLL M12.d key ts lo hi).1.key (readLL M12.d key ts lo hi).1.ts (readLL M12.d key ts lo hi).1.value (readLL M12.d key ts lo hi).1.gone (atS M12.st key ts).1.key (atS M12.st key ts).1.ts (atS M12.st key ts).1.value (atS M12.st key ts).1.gone) = true := by rw [hRR, hSS]; exact decide_eq_true rfl
                    replace hK := hK.sub (d := 164) (v' := .bool true) rfl (congrArg Value.bool hd83)
                    refine st_op (d := 165) (v' := .bool (readLL M12.d key ts lo hi).2.1) (vs := []) (obs := []) hK rfl (fun _ => by kernel_rfl) trivial rfl rfl rfl ?_
                    clear hK a; intro a hK
                    refine st_op (d := 166) (v' := .bool (atS M12.st key ts).2.1) (vs := []) (obs := []) hK rfl (fun _ => by kernel_rfl) trivial rfl rfl rfl ?_
                    clear hK a; intro a hK
                    refine st_op (d := 167) (v' := .bool ((readLL M12.d key ts lo hi).2.1 == (atS M12.st key ts).2.1)) (vs := []) (obs := []) hK rfl (fun _ => by kernel_rfl) trivial rfl rfl rfl ?_
                    clear hK a; intro a hK
                    refine st_op (d := 168) (v' := .bool ((readLL M12.d key ts lo hi).2.1 == (atS M12.st key ts).2.1)) (vs := []) (obs := []) hK rfl (fun _ => by kernel_rfl) trivial rfl rfl rfl ?_
                    clear hK a; intro a hK
                    refine st_op (d := 169) (v' := .bool ((readLL M12.d key ts lo hi).2.1 == (atS M12.st key ts).2.1)) (vs := []) (obs := []) hK rfl (fun _ => by kernel_rfl) trivial rfl rfl rfl ?_
                    clear hK a; intro a hK
                    have hd84 : (((readLL M12.d key ts lo hi).2.1 == (atS M12.st key ts).2.1)) = true := by rw [hRR, hSS]; exact beq_self_eq_true _
                    replace hK := hK.sub (d := 169) (v' := .bool true) rfl (congrArg Value.bool hd84)
                    refine st_op (d := 170) (v' := .bool (readLL M12.d key ts lo hi).2.1) (vs := []) (obs := []) hK rfl (fun _ => by kernel_rfl) trivial rfl rfl rfl ?_
                    clear hK a; intro a hK
                    refine st_op (d := 171) (v' := .bool (bstF key ts (L.st ++ ((txs L.op).take j).flatMap verT)).gone) (vs := []) (obs := []) hK rfl (fun _ => by kernel_rfl) trivial rfl rfl rfl ?_
                    clear hK a; intro a hK
                    refine st_op (d := 172) (v' := .bool (!(bstF key ts (L.st ++ ((txs L.op).take j).flatMap verT)).gone)) (vs := []) (obs := []) hK rfl (fun _ => by kernel_rfl) trivial rfl rfl rfl ?_
                    clear hK a; intro a hK
                    refine st_op (d := 173) (v' := .bool ((readLL M12.d key ts lo hi).2.1 == !(bstF key ts (L.st ++ ((txs L.op).take j).flatMap verT)).gone)) (vs := []) (obs := []) hK rfl (fun _ => by kernel_rfl) trivial rfl rfl rfl ?_
                    clear hK a; intro a hK
                    refine st_op (d := 174) (v' := .bool ((readLL M12.d key ts lo hi).2.1 == !(bstF key ts (L.st ++ ((txs L.op).take j).flatMap verT)).gone)) (vs := []) (obs := []) hK rfl (fun _ => by kernel_rfl) trivial rfl rfl rfl ?_
                    clear hK a; intro a hK
                    refine st_op (d := 175) (v' := .bool ((readLL M12.d key ts lo hi).2.1 == !(bstF key ts (L.st ++ ((txs L.op).take j).flatMap verT)).gone)) (vs := []) (obs := []) hK rfl (fun _ => by kernel_rfl) trivial rfl rfl rfl ?_
                    clear hK a; intro a hK
                    have hd85 : (((readLL M12.d key ts lo hi).2.1 == !(bstF key ts (L.st ++ ((txs L.op).take j).flatMap verT)).gone)) = true := by rw [hRR, hc80]; rfl
                    replace hK := hK.sub (d := 175) (v' := .bool true) rfl (congrArg Value.bool hd85)
                    refine st_op (d := 176) (v' := .agg #[.int .i64 (readLL M12.d key ts lo hi).1.key, .int .i64 (readLL M12.d key ts lo hi).1.ts, .int .i64 (readLL M12.d key ts lo hi).1.value, .bool (readLL M12.d key ts lo hi).1.gone]) (vs := [.int .i64 (readLL M12.d key ts lo hi).1.key, .int .i64 (readLL M12.d key ts lo hi).1.ts, .int .i64 (readLL M12.d key ts lo hi).1.value, .bool (readLL M12.d key ts lo hi).1.gone]) (obs := [(⟨g22, 0, none⟩, .int .i64 (readLL M12.d key ts lo hi).1.key), (⟨g22, 1, none⟩, .int .i64 (readLL M12.d key ts lo hi).1.ts), (⟨g22, 2, none⟩, .int .i64 (readLL M12.d key ts lo hi).1.value), (⟨g22, 3, none⟩, .bool (readLL M12.d key ts lo hi).1.gone)]) hK rfl (fun _ => by kernel_rfl) ⟨((hE.blk 2 rfl).cell 0).trans rfl, ((hE.blk 2 rfl).cell 1).trans rfl, ((hE.blk 2 rfl).cell 2).trans rfl, ((hE.blk 2 rfl).cell 3).trans rfl, trivial⟩ rfl rfl rfl ?_
                    clear hK a; intro a hK
                    refine st_op (d := 177) (v' := .agg #[.int .i64 0, .int .i64 0, .int .i64 0, .bool false]) (vs := [.int .i64 0, .int .i64 0, .int .i64 0, .bool false]) (obs := [(⟨g26, 0, none⟩, .int .i64 0), (⟨g26, 1, none⟩, .int .i64 0), (⟨g26, 2, none⟩, .int .i64 0), (⟨g26, 3, none⟩, .bool false)]) hK rfl (fun _ => by kernel_rfl) ⟨((hE.blk 1 rfl).cell 0).trans rfl, ((hE.blk 1 rfl).cell 1).trans rfl, ((hE.blk 1 rfl).cell 2).trans rfl, ((hE.blk 1 rfl).cell 3).trans rfl, trivial⟩ rfl rfl rfl ?_
                    clear hK a; intro a hK
                    refine st_run (d := 178) (v' := .bool (eqB (readLL M12.d key ts lo hi).1.key (readLL M12.d key ts lo hi).1.ts (readLL M12.d key ts lo hi).1.value (readLL M12.d key ts lo hi).1.gone 0 0 0 false)) hK rfl (ex_eq rfl (fun _ => rfl) (fun _ => rfl) (by kernel_rfl) (fun W => eqlV (readLL M12.d key ts lo hi).1.key (readLL M12.d key ts lo hi).1.ts (readLL M12.d key ts lo hi).1.value 0 0 0 (readLL M12.d key ts lo hi).1.gone false W)) rfl rfl rfl ?_
                    clear hK a; intro a hK
                    refine st_op (d := 179) (v' := .bool (eqB (readLL M12.d key ts lo hi).1.key (readLL M12.d key ts lo hi).1.ts (readLL M12.d key ts lo hi).1.value (readLL M12.d key ts lo hi).1.gone 0 0 0 false)) (vs := []) (obs := []) hK rfl (fun _ => by kernel_rfl) trivial rfl rfl rfl ?_
                    clear hK a; intro a hK
                    refine st_op (d := 10) (v' := .bool (eqB (readLL M12.d key ts lo hi).1.key (readLL M12.d key ts lo hi).1.ts (readLL M12.d key ts lo hi).1.value (readLL M12.d key ts lo hi).1.gone 0 0 0 false)) (vs := []) (obs := []) hK rfl (fun _ => by kernel_rfl) trivial rfl rfl rfl ?_
                    clear hK a; intro a hK
                    refine wpList_nil ?_
                    replace hK := hK.weak (K' := [(10, .bool (eqB (readLL M12.d key ts lo hi).1.key (readLL M12.d key ts lo hi).1.ts (readLL M12.d key ts lo hi).1.value (readLL M12.d key ts lo hi).1.gone 0 0 0 false))]) ⟨rfl, trivial⟩
                    refine xt_norm ?_
                    refine wp_ret ?_
                    have hd86 : (eqB (readLL M12.d key ts lo hi).1.key (readLL M12.d key ts lo hi).1.ts (readLL M12.d key ts lo hi).1.value (readLL M12.d key ts lo hi).1.gone 0 0 0 false) = true := by rw [hRR]; exact decide_eq_true rfl
                    replace hK := hK.sub (d := 10) (v' := .bool true) rfl (congrArg Value.bool hd86)
                    refine vc_ret (v' := .bool true) (vs := []) (obs := []) hK (fun _ => by kernel_rfl) trivial rfl ?_
                    exact ⟨rfl, hE.b⟩
                  · replace hK := hK.sub (d := 152) (v' := .bool false) rfl (congrArg Value.bool hc80)
                    refine vc_cond (t := false) hK (fun _ => rfl) ?_
                    rw [if_neg (by simp)]
                    refine wp_skip ?_
                    refine xt_norm ?_
                    refine wp_seq ?_
                    refine wp_region_lit ?_
                    refine st_op (d := 154) (v' := .bool true) (vs := []) (obs := []) hK rfl (fun _ => by kernel_rfl) trivial rfl rfl rfl ?_
                    clear hK a; intro a hK
                    refine st_op (d := 155) (v' := .bool true) (vs := []) (obs := []) hK rfl (fun _ => by kernel_rfl) trivial rfl rfl rfl ?_
                    clear hK a; intro a hK
                    refine st_op (d := 156) (v' := .int .i64 (atS M12.st key ts).2.2) (vs := []) (obs := []) hK rfl (fun _ => by kernel_rfl) trivial rfl rfl rfl ?_
                    clear hK a; intro a hK
                    refine st_op (d := 157) (v' := .bool ((atS M12.st key ts).2.2 == 0)) (vs := []) (obs := []) hK rfl (fun _ => by kernel_rfl) trivial rfl rfl rfl ?_
                    clear hK a; intro a hK
                    refine st_op (d := 158) (v' := .bool ((atS M12.st key ts).2.2 == 0)) (vs := []) (obs := []) hK rfl (fun _ => by kernel_rfl) trivial rfl rfl rfl ?_
                    clear hK a; intro a hK
                    refine st_op (d := 159) (v' := .bool ((atS M12.st key ts).2.2 == 0)) (vs := []) (obs := []) hK rfl (fun _ => by kernel_rfl) trivial rfl rfl rfl ?_
                    clear hK a; intro a hK
                    have hSS : (atS M12.st key ts) = (bstF key ts (L.st ++ ((txs L.op).take j).flatMap verT), true, (0 : Int)) := hrl.2.trans (if_neg (fun hh => by rcases hh with hh | hh; exact hc73p hh; rw [hc80] at hh; exact absurd hh (by decide)))
                    have hRR : (readLL M12.d key ts lo hi) = (bstF key ts (L.st ++ ((txs L.op).take j).flatMap verT), true, (0 : Int)) := hrl.1.trans hSS
                    have hd87 : (((atS M12.st key ts).2.2 == 0)) = true := by rw [hSS]; rfl
                    replace hK := hK.sub (d := 159) (v' := .bool true) rfl (congrArg Value.bool hd87)
                    refine st_op (d := 160) (v' := .agg #[.int .i64 (readLL M12.d key ts lo hi).1.key, .int .i64 (readLL M12.d key ts lo hi).1.ts, .int .i64 (readLL M12.d key ts lo hi).1.value, .bool (readLL M12.d key ts lo hi).1.gone]) (vs := [.int .i64 (readLL M12.d key ts lo hi).1.key, .int .i64 (readLL M12.d key ts lo hi).1.ts, .int .i64 (readLL M12.d key ts lo hi).1.value, .bool (readLL M12.d key ts lo hi).1.gone]) (obs := [(⟨g22, 0, none⟩, .int .i64 (readLL M12.d key ts lo hi).1.key), (⟨g22, 1, none⟩, .int .i64 (readLL M12.d key ts lo hi).1.ts), (⟨g22, 2, none⟩, .int .i64 (readLL M12.d key ts lo hi).1.value), (⟨g22, 3, none⟩, .bool (readLL M12.d key ts lo hi).1.gone)]) hK rfl (fun _ => by kernel_rfl) ⟨((hE.blk 2 rfl).cell 0).trans rfl, ((hE.blk 2 rfl).cell 1).trans rfl, ((hE.blk 2 rfl).cell 2).trans rfl, ((hE.blk 2 rfl).cell 3).trans rfl, trivial⟩ rfl rfl rfl ?_
                    clear hK a; intro a hK
                    refine st_op (d := 161) (v' := .agg #[.int .i64 (atS M12.st key ts).1.key, .int .i64 (atS M12.st key ts).1.ts, .int .i64 (atS M12.st key ts).1.value, .bool (atS M12.st key ts).1.gone]) (vs := [.int .i64 (atS M12.st key ts).1.key, .int .i64 (atS M12.st key ts).1.ts, .int .i64 (atS M12.st key ts).1.value, .bool (atS M12.st key ts).1.gone]) (obs := [(⟨g70, 0, none⟩, .int .i64 (atS M12.st key ts).1.key), (⟨g70, 1, none⟩, .int .i64 (atS M12.st key ts).1.ts), (⟨g70, 2, none⟩, .int .i64 (atS M12.st key ts).1.value), (⟨g70, 3, none⟩, .bool (atS M12.st key ts).1.gone)]) hK rfl (fun _ => by kernel_rfl) ⟨((hE.blk 0 rfl).cell 0).trans rfl, ((hE.blk 0 rfl).cell 1).trans rfl, ((hE.blk 0 rfl).cell 2).trans rfl, ((hE.blk 0 rfl).cell 3).trans rfl, trivial⟩ rfl rfl rfl ?_
                    clear hK a; intro a hK
                    refine st_run (d := 162) (v' := .bool (eqB (readLL M12.d key ts lo hi).1.key (readLL M12.d key ts lo hi).1.ts (readLL M12.d key ts lo hi).1.value (readLL M12.d key ts lo hi).1.gone (atS M12.st key ts).1.key (atS M12.st key ts).1.ts (atS M12.st key ts).1.value (atS M12.st key ts).1.gone)) hK rfl (ex_eq rfl (fun _ => rfl) (fun _ => rfl) (by kernel_rfl) (fun W => eqlV (readLL M12.d key ts lo hi).1.key (readLL M12.d key ts lo hi).1.ts (readLL M12.d key ts lo hi).1.value (atS M12.st key ts).1.key (atS M12.st key ts).1.ts (atS M12.st key ts).1.value (readLL M12.d key ts lo hi).1.gone (atS M12.st key ts).1.gone W)) rfl rfl rfl ?_
                    clear hK a; intro a hK
                    refine st_op (d := 163) (v' := .bool (eqB (readLL M12.d key ts lo hi).1.key (readLL M12.d key ts lo hi).1.ts (readLL M12.d key ts lo hi).1.value (readLL M12.d key ts lo hi).1.gone (atS M12.st key ts).1.key (atS M12.st key ts).1.ts (atS M12.st key ts).1.value (atS M12.st key ts).1.gone)) (vs := []) (obs := []) hK rfl (fun _ => by kernel_rfl) trivial rfl rfl rfl ?_
                    clear hK a; intro a hK
                    refine st_op (d := 164) (v' := .bool (eqB (readLL M12.d key ts lo hi).1.key (readLL M12.d key ts lo hi).1.ts (readLL M12.d key ts lo hi).1.value (readLL M12.d key ts lo hi).1.gone (atS M12.st key ts).1.key (atS M12.st key ts).1.ts (atS M12.st key ts).1.value (atS M12.st key ts).1.gone)) (vs := []) (obs := []) hK rfl (fun _ => by kernel_rfl) trivial rfl rfl rfl ?_
                    clear hK a; intro a hK
                    have hd88 : (eqB (readLL M12.d key ts lo hi).1.key (readLL M12.d key ts lo hi).1.ts (readLL M12.d key ts lo hi).1.value (readLL M12.d key ts lo hi).1.gone (atS M12.st key ts).1.key (atS M12.st key ts).1.ts (atS M12.st key ts).1.value (atS M12.st key ts).1.gone) = true := by rw [hRR, hSS]; exact decide_eq_true rfl
                    replace hK := hK.sub (d := 164) (v' := .bool true) rfl (congrArg Value.bool hd88)
                    refine st_op (d := 165) (v' := .bool (readLL M12.d key ts lo hi).2.1) (vs := []) (obs := []) hK rfl (fun _ => by kernel_rfl) trivial rfl rfl rfl ?_
                    clear hK a; intro a hK
                    refine st_op (d := 166) (v' := .bool (atS M12.st key ts).2.1) (vs := []) (obs := []) hK rfl (fun _ => by kernel_rfl) trivial rfl rfl rfl ?_
                    clear hK a; intro a hK
                    refine st_op (d := 167) (v' := .bool ((readLL M12.d key ts lo hi).2.1 == (atS M12.st key ts).2.1)) (vs := []) (obs := []) hK rfl (fun _ => by kernel_rfl) trivial rfl rfl rfl ?_
                    clear hK a; intro a hK
                    refine st_op (d := 168) (v' := .bool ((readLL M12.d key ts lo hi).2.1 == (atS M12.st key ts).2.1)) (vs := []) (obs := []) hK rfl (fun _ => by kernel_rfl) trivial rfl rfl rfl ?_
                    clear hK a; intro a hK
                    refine st_op (d := 169) (v' := .bool ((readLL M12.d key ts lo hi).2.1 == (atS M12.st key ts).2.1)) (vs := []) (obs := []) hK rfl (fun _ => by kernel_rfl) trivial rfl rfl rfl ?_
                    clear hK a; intro a hK
                    have hd89 : (((readLL M12.d key ts lo hi).2.1 == (atS M12.st key ts).2.1)) = true := by rw [hRR, hSS]; exact beq_self_eq_true _
                    replace hK := hK.sub (d := 169) (v' := .bool true) rfl (congrArg Value.bool hd89)
                    refine st_op (d := 170) (v' := .bool (readLL M12.d key ts lo hi).2.1) (vs := []) (obs := []) hK rfl (fun _ => by kernel_rfl) trivial rfl rfl rfl ?_
                    clear hK a; intro a hK
                    refine st_op (d := 171) (v' := .bool (bstF key ts (L.st ++ ((txs L.op).take j).flatMap verT)).gone) (vs := []) (obs := []) hK rfl (fun _ => by kernel_rfl) trivial rfl rfl rfl ?_
                    clear hK a; intro a hK
                    refine st_op (d := 172) (v' := .bool (!(bstF key ts (L.st ++ ((txs L.op).take j).flatMap verT)).gone)) (vs := []) (obs := []) hK rfl (fun _ => by kernel_rfl) trivial rfl rfl rfl ?_
                    clear hK a; intro a hK
                    refine st_op (d := 173) (v' := .bool ((readLL M12.d key ts lo hi).2.1 == !(bstF key ts (L.st ++ ((txs L.op).take j).flatMap verT)).gone)) (vs := []) (obs := []) hK rfl (fun _ => by kernel_rfl) trivial rfl rfl rfl ?_
                    clear hK a; intro a hK
                    refine st_op (d := 174) (v' := .bool ((readLL M12.d key ts lo hi).2.1 == !(bstF key ts (L.st ++ ((txs L.op).take j).flatMap verT)).gone)) (vs := []) (obs := []) hK rfl (fun _ => by kernel_rfl) trivial rfl rfl rfl ?_
                    clear hK a; intro a hK
                    refine st_op (d := 175) (v' := .bool ((readLL M12.d key ts lo hi).2.1 == !(bstF key ts (L.st ++ ((txs L.op).take j).flatMap verT)).gone)) (vs := []) (obs := []) hK rfl (fun _ => by kernel_rfl) trivial rfl rfl rfl ?_
                    clear hK a; intro a hK
                    have hd90 : (((readLL M12.d key ts lo hi).2.1 == !(bstF key ts (L.st ++ ((txs L.op).take j).flatMap verT)).gone)) = true := by rw [hRR, hc80]; rfl
                    replace hK := hK.sub (d := 175) (v' := .bool true) rfl (congrArg Value.bool hd90)
                    refine st_op (d := 176) (v' := .agg #[.int .i64 (readLL M12.d key ts lo hi).1.key, .int .i64 (readLL M12.d key ts lo hi).1.ts, .int .i64 (readLL M12.d key ts lo hi).1.value, .bool (readLL M12.d key ts lo hi).1.gone]) (vs := [.int .i64 (readLL M12.d key ts lo hi).1.key, .int .i64 (readLL M12.d key ts lo hi).1.ts, .int .i64 (readLL M12.d key ts lo hi).1.value, .bool (readLL M12.d key ts lo hi).1.gone]) (obs := [(⟨g22, 0, none⟩, .int .i64 (readLL M12.d key ts lo hi).1.key), (⟨g22, 1, none⟩, .int .i64 (readLL M12.d key ts lo hi).1.ts), (⟨g22, 2, none⟩, .int .i64 (readLL M12.d key ts lo hi).1.value), (⟨g22, 3, none⟩, .bool (readLL M12.d key ts lo hi).1.gone)]) hK rfl (fun _ => by kernel_rfl) ⟨((hE.blk 2 rfl).cell 0).trans rfl, ((hE.blk 2 rfl).cell 1).trans rfl, ((hE.blk 2 rfl).cell 2).trans rfl, ((hE.blk 2 rfl).cell 3).trans rfl, trivial⟩ rfl rfl rfl ?_
                    clear hK a; intro a hK
                    refine st_op (d := 177) (v' := .agg #[.int .i64 (bstF key ts (L.st ++ ((txs L.op).take j).flatMap verT)).key, .int .i64 (bstF key ts (L.st ++ ((txs L.op).take j).flatMap verT)).ts, .int .i64 (bstF key ts (L.st ++ ((txs L.op).take j).flatMap verT)).value, .bool (bstF key ts (L.st ++ ((txs L.op).take j).flatMap verT)).gone]) (vs := [.int .i64 (bstF key ts (L.st ++ ((txs L.op).take j).flatMap verT)).key, .int .i64 (bstF key ts (L.st ++ ((txs L.op).take j).flatMap verT)).ts, .int .i64 (bstF key ts (L.st ++ ((txs L.op).take j).flatMap verT)).value, .bool (bstF key ts (L.st ++ ((txs L.op).take j).flatMap verT)).gone]) (obs := [(⟨g26, 0, none⟩, .int .i64 (bstF key ts (L.st ++ ((txs L.op).take j).flatMap verT)).key), (⟨g26, 1, none⟩, .int .i64 (bstF key ts (L.st ++ ((txs L.op).take j).flatMap verT)).ts), (⟨g26, 2, none⟩, .int .i64 (bstF key ts (L.st ++ ((txs L.op).take j).flatMap verT)).value), (⟨g26, 3, none⟩, .bool (bstF key ts (L.st ++ ((txs L.op).take j).flatMap verT)).gone)]) hK rfl (fun _ => by kernel_rfl) ⟨((hE.blk 1 rfl).cell 0).trans rfl, ((hE.blk 1 rfl).cell 1).trans rfl, ((hE.blk 1 rfl).cell 2).trans rfl, ((hE.blk 1 rfl).cell 3).trans rfl, trivial⟩ rfl rfl rfl ?_
                    clear hK a; intro a hK
                    refine st_run (d := 178) (v' := .bool (eqB (readLL M12.d key ts lo hi).1.key (readLL M12.d key ts lo hi).1.ts (readLL M12.d key ts lo hi).1.value (readLL M12.d key ts lo hi).1.gone (bstF key ts (L.st ++ ((txs L.op).take j).flatMap verT)).key (bstF key ts (L.st ++ ((txs L.op).take j).flatMap verT)).ts (bstF key ts (L.st ++ ((txs L.op).take j).flatMap verT)).value (bstF key ts (L.st ++ ((txs L.op).take j).flatMap verT)).gone)) hK rfl (ex_eq rfl (fun _ => rfl) (fun _ => rfl) (by kernel_rfl) (fun W => eqlV (readLL M12.d key ts lo hi).1.key (readLL M12.d key ts lo hi).1.ts (readLL M12.d key ts lo hi).1.value (bstF key ts (L.st ++ ((txs L.op).take j).flatMap verT)).key (bstF key ts (L.st ++ ((txs L.op).take j).flatMap verT)).ts (bstF key ts (L.st ++ ((txs L.op).take j).flatMap verT)).value (readLL M12.d key ts lo hi).1.gone (bstF key ts (L.st ++ ((txs L.op).take j).flatMap verT)).gone W)) rfl rfl rfl ?_
                    clear hK a; intro a hK
                    refine st_op (d := 179) (v' := .bool (eqB (readLL M12.d key ts lo hi).1.key (readLL M12.d key ts lo hi).1.ts (readLL M12.d key ts lo hi).1.value (readLL M12.d key ts lo hi).1.gone (bstF key ts (L.st ++ ((txs L.op).take j).flatMap verT)).key (bstF key ts (L.st ++ ((txs L.op).take j).flatMap verT)).ts (bstF key ts (L.st ++ ((txs L.op).take j).flatMap verT)).value (bstF key ts (L.st ++ ((txs L.op).take j).flatMap verT)).gone)) (vs := []) (obs := []) hK rfl (fun _ => by kernel_rfl) trivial rfl rfl rfl ?_
                    clear hK a; intro a hK
                    refine st_op (d := 10) (v' := .bool (eqB (readLL M12.d key ts lo hi).1.key (readLL M12.d key ts lo hi).1.ts (readLL M12.d key ts lo hi).1.value (readLL M12.d key ts lo hi).1.gone (bstF key ts (L.st ++ ((txs L.op).take j).flatMap verT)).key (bstF key ts (L.st ++ ((txs L.op).take j).flatMap verT)).ts (bstF key ts (L.st ++ ((txs L.op).take j).flatMap verT)).value (bstF key ts (L.st ++ ((txs L.op).take j).flatMap verT)).gone)) (vs := []) (obs := []) hK rfl (fun _ => by kernel_rfl) trivial rfl rfl rfl ?_
                    clear hK a; intro a hK
                    refine wpList_nil ?_
                    replace hK := hK.weak (K' := [(10, .bool (eqB (readLL M12.d key ts lo hi).1.key (readLL M12.d key ts lo hi).1.ts (readLL M12.d key ts lo hi).1.value (readLL M12.d key ts lo hi).1.gone (bstF key ts (L.st ++ ((txs L.op).take j).flatMap verT)).key (bstF key ts (L.st ++ ((txs L.op).take j).flatMap verT)).ts (bstF key ts (L.st ++ ((txs L.op).take j).flatMap verT)).value (bstF key ts (L.st ++ ((txs L.op).take j).flatMap verT)).gone))]) ⟨rfl, trivial⟩
                    refine xt_norm ?_
                    refine wp_ret ?_
                    have hd91 : (eqB (readLL M12.d key ts lo hi).1.key (readLL M12.d key ts lo hi).1.ts (readLL M12.d key ts lo hi).1.value (readLL M12.d key ts lo hi).1.gone (bstF key ts (L.st ++ ((txs L.op).take j).flatMap verT)).key (bstF key ts (L.st ++ ((txs L.op).take j).flatMap verT)).ts (bstF key ts (L.st ++ ((txs L.op).take j).flatMap verT)).value (bstF key ts (L.st ++ ((txs L.op).take j).flatMap verT)).gone) = true := by rw [hRR]; exact decide_eq_true rfl
                    replace hK := hK.sub (d := 10) (v' := .bool true) rfl (congrArg Value.bool hd91)
                    refine vc_ret (v' := .bool true) (vs := []) (obs := []) hK (fun _ => by kernel_rfl) trivial rfl ?_
                    exact ⟨rfl, hE.b⟩
      · have hc25p := ne_of_beq_false hc25
        have hrb := read_bad (fun e => hc25p e)
        replace hK := hK.sub (d := 58) (v' := .bool true) rfl (congrArg (fun b => Value.bool !b) hc25)
        refine vc_cond (t := true) hK (fun _ => rfl) ?_
        rw [if_pos rfl]
        refine wp_seq ?_
        refine wp_region_lit ?_
        refine st_op (d := 59) (v' := .bool true) (vs := []) (obs := []) hK rfl (fun _ => by kernel_rfl) trivial rfl rfl rfl ?_
        clear hK a; intro a hK
        refine st_op (d := 60) (v' := .bool true) (vs := []) (obs := []) hK rfl (fun _ => by kernel_rfl) trivial rfl rfl rfl ?_
        clear hK a; intro a hK
        refine st_op (d := 61) (v' := .agg #[.int .i64 (readLL M12.d key ts lo hi).1.key, .int .i64 (readLL M12.d key ts lo hi).1.ts, .int .i64 (readLL M12.d key ts lo hi).1.value, .bool (readLL M12.d key ts lo hi).1.gone]) (vs := [.int .i64 (readLL M12.d key ts lo hi).1.key, .int .i64 (readLL M12.d key ts lo hi).1.ts, .int .i64 (readLL M12.d key ts lo hi).1.value, .bool (readLL M12.d key ts lo hi).1.gone]) (obs := [(⟨g22, 0, none⟩, .int .i64 (readLL M12.d key ts lo hi).1.key), (⟨g22, 1, none⟩, .int .i64 (readLL M12.d key ts lo hi).1.ts), (⟨g22, 2, none⟩, .int .i64 (readLL M12.d key ts lo hi).1.value), (⟨g22, 3, none⟩, .bool (readLL M12.d key ts lo hi).1.gone)]) hK rfl (fun _ => by kernel_rfl) ⟨((hE.blk 0 rfl).cell 0).trans rfl, ((hE.blk 0 rfl).cell 1).trans rfl, ((hE.blk 0 rfl).cell 2).trans rfl, ((hE.blk 0 rfl).cell 3).trans rfl, trivial⟩ rfl rfl rfl ?_
        clear hK a; intro a hK
        refine st_op (d := 62) (v' := .agg #[.int .i64 0, .int .i64 0, .int .i64 0, .bool false]) (vs := []) (obs := []) hK rfl (fun _ => by kernel_rfl) trivial rfl rfl rfl ?_
        clear hK a; intro a hK
        refine st_run (d := 63) (v' := .bool (eqB (readLL M12.d key ts lo hi).1.key (readLL M12.d key ts lo hi).1.ts (readLL M12.d key ts lo hi).1.value (readLL M12.d key ts lo hi).1.gone 0 0 0 false)) hK rfl (ex_eq rfl (fun _ => rfl) (fun _ => rfl) (by kernel_rfl) (fun W => eqlV (readLL M12.d key ts lo hi).1.key (readLL M12.d key ts lo hi).1.ts (readLL M12.d key ts lo hi).1.value 0 0 0 (readLL M12.d key ts lo hi).1.gone false W)) rfl rfl rfl ?_
        clear hK a; intro a hK
        refine st_op (d := 64) (v' := .bool (eqB (readLL M12.d key ts lo hi).1.key (readLL M12.d key ts lo hi).1.ts (readLL M12.d key ts lo hi).1.value (readLL M12.d key ts lo hi).1.gone 0 0 0 false)) (vs := []) (obs := []) hK rfl (fun _ => by kernel_rfl) trivial rfl rfl rfl ?_
        clear hK a; intro a hK
        refine st_op (d := 65) (v' := .bool (eqB (readLL M12.d key ts lo hi).1.key (readLL M12.d key ts lo hi).1.ts (readLL M12.d key ts lo hi).1.value (readLL M12.d key ts lo hi).1.gone 0 0 0 false)) (vs := []) (obs := []) hK rfl (fun _ => by kernel_rfl) trivial rfl rfl rfl ?_
        clear hK a; intro a hK
        have hd92 : (eqB (readLL M12.d key ts lo hi).1.key (readLL M12.d key ts lo hi).1.ts (readLL M12.d key ts lo hi).1.value (readLL M12.d key ts lo hi).1.gone 0 0 0 false) = true := by rw [hrb.2.2]; exact decide_eq_true rfl
        replace hK := hK.sub (d := 65) (v' := .bool true) rfl (congrArg Value.bool hd92)
        refine st_op (d := 66) (v' := .bool (readLL M12.d key ts lo hi).2.1) (vs := []) (obs := []) hK rfl (fun _ => by kernel_rfl) trivial rfl rfl rfl ?_
        clear hK a; intro a hK
        refine st_op (d := 67) (v' := .bool (!(readLL M12.d key ts lo hi).2.1)) (vs := []) (obs := []) hK rfl (fun _ => by kernel_rfl) trivial rfl rfl rfl ?_
        clear hK a; intro a hK
        refine st_op (d := 68) (v' := .bool (!(readLL M12.d key ts lo hi).2.1)) (vs := []) (obs := []) hK rfl (fun _ => by kernel_rfl) trivial rfl rfl rfl ?_
        clear hK a; intro a hK
        refine st_op (d := 10) (v' := .bool (!(readLL M12.d key ts lo hi).2.1)) (vs := []) (obs := []) hK rfl (fun _ => by kernel_rfl) trivial rfl rfl rfl ?_
        clear hK a; intro a hK
        refine wpList_nil ?_
        replace hK := hK.weak (K' := [(1, .int .i64 key), (2, .int .i64 ts), (5, .pointer (some ⟨g1, 0, none⟩)), (10, .bool (!(readLL M12.d key ts lo hi).2.1)), (11, .bool true), (12, .pointer (some ⟨g17, 0, none⟩)), (15, .pointer (some ⟨g22, 0, none⟩)), (16, .bool (readLL M12.d key ts lo hi).2.1)]) ⟨rfl, rfl, rfl, rfl, rfl, rfl, rfl, rfl, trivial⟩
        refine xt_norm ?_
        refine wp_ret ?_
        refine xt_ret ?_
        have hd93 : ((readLL M12.d key ts lo hi).2.1) = false := hrb.2.1
        replace hK := hK.sub (d := 10) (v' := .bool true) rfl (congrArg (fun b => Value.bool !b) hd93)
        refine vc_ret (v' := .bool true) (vs := []) (obs := []) hK (fun _ => by kernel_rfl) trivial rfl ?_
        exact ⟨rfl, hE.b⟩
    · replace hK := hK.sub (d := 37) (v' := .bool true) rfl (congrArg (fun b => Value.bool !b) hc11)
      refine vc_cond (t := true) hK (fun _ => rfl) ?_
      rw [if_pos rfl]
      refine wp_seq ?_
      refine wp_region_lit ?_
      refine st_op (d := 38) (v' := .bool true) (vs := []) (obs := []) hK rfl (fun _ => by kernel_rfl) trivial rfl rfl rfl ?_
      clear hK a; intro a hK
      refine st_op (d := 10) (v' := .bool true) (vs := []) (obs := []) hK rfl (fun _ => by kernel_rfl) trivial rfl rfl rfl ?_
      clear hK a; intro a hK
      refine wpList_nil ?_
      refine xt_norm ?_
      refine wp_ret ?_
      refine xt_ret ?_
      refine vc_ret (v' := .bool true) (vs := []) (obs := []) hK (fun _ => by kernel_rfl) trivial rfl ?_
      exact ⟨rfl, hE.b⟩
  · replace hK := hK.sub (d := 33) (v' := .bool true) rfl (congrArg (fun b => Value.bool !b) hc9)
    refine st_skip (d := 34) hK rfl rfl rfl ?_
    clear hK a; intro a hK
    refine st_skip (d := 35) hK rfl rfl rfl ?_
    clear hK a; intro a hK
    refine st_skip (d := 36) hK rfl rfl rfl ?_
    clear hK a; intro a hK
    refine st_op (d := 37) (v' := .bool true) (vs := []) (obs := []) hK rfl (fun _ => by kernel_rfl) trivial rfl rfl rfl ?_
    clear hK a; intro a hK
    refine wpList_nil ?_
    refine xt_norm ?_
    refine vc_cond (t := true) hK (fun _ => rfl) ?_
    rw [if_pos rfl]
    refine wp_seq ?_
    refine wp_region_lit ?_
    refine st_op (d := 38) (v' := .bool true) (vs := []) (obs := []) hK rfl (fun _ => by kernel_rfl) trivial rfl rfl rfl ?_
    clear hK a; intro a hK
    refine st_op (d := 10) (v' := .bool true) (vs := []) (obs := []) hK rfl (fun _ => by kernel_rfl) trivial rfl rfl rfl ?_
    clear hK a; intro a hK
    refine wpList_nil ?_
    refine xt_norm ?_
    refine wp_ret ?_
    refine xt_ret ?_
    refine vc_ret (v' := .bool true) (vs := []) (obs := []) hK (fun _ => by kernel_rfl) trivial rfl ?_
    exact ⟨rfl, hE.b⟩
end Go.Proofs.Ytficjpfhakggmaa
