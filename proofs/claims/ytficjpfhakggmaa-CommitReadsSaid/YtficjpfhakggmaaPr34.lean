/-
  Plain laws of layer 34: leaders stay well-formed when they stamp and show.
-/
import Derived.Test.YtficjpfhakggmaaLk34
import Derived.Test.YtficjpfhakggmaaVc
namespace Go.Proofs.Ytficjpfhakggmaa
theorem chain_mono {m m' : Int} (h : m' ≤ m) : ∀ {l : List Tx}, chainB m l = true → chainB m' l = true
  | [], _ => rfl
  | t :: l, hc => by
    unfold chainB at hc ⊢
    rw [Bool.and_eq_true, Bool.and_eq_true, decide_eq_true_eq] at hc
    rw [Bool.and_eq_true, Bool.and_eq_true, decide_eq_true_eq]
    exact ⟨⟨hc.1.1, by omega⟩, hc.2⟩
theorem last_mono {m m' : Int} (h : m' ≤ m) : ∀ l : List Tx, lastTs m' l ≤ lastTs m l
  | [] => h
  | _ :: _ => Int.le_refl _
theorem chain_last {m : Int} : ∀ {l : List Tx}, chainB m l = true → m ≤ lastTs m l ∧ ∀ t ∈ l, t.ts ≤ lastTs m l
  | [], _ => ⟨Int.le_refl _, fun t ht => by cases ht⟩
  | x :: l, hc => by
    unfold chainB at hc
    rw [Bool.and_eq_true, Bool.and_eq_true, decide_eq_true_eq] at hc
    have ih := chain_last hc.2
    refine ⟨by show m ≤ lastTs x.ts l; omega, fun t ht => ?_⟩
    rcases List.mem_cons.1 ht with rfl | ht
    · exact ih.1
    · exact ih.2 t ht
theorem maxTs_le0 : ∀ (l : List Ver) (a b : Int), a ≤ b → (∀ v ∈ l, v.ts ≤ b) → l.foldl (fun m v => max m v.ts) a ≤ b
  | [], _, _, h, _ => h
  | v :: l, a, b, h, hv => by
    rw [List.foldl_cons]
    exact maxTs_le0 l _ b (by have := hv v (by simp); omega) (fun u hu => hv u (by simp [hu]))
theorem maxTs_le {l : List Ver} {b : Int} (h0 : 0 ≤ b) (h : ∀ v ∈ l, v.ts ≤ b) : maxTs l ≤ b := maxTs_le0 l 0 b h0 h
structure LeadP (last : Int) (st : List Ver) (op : List Tx) : Prop where
  sto : Sto st
  bd : 0 ≤ last ∧ last ≤ 3000000000000000
  ol : op.length ≤ 2000
  sz : st.length + wlen op ≤ 4000
  ch : chainB (maxTs st) op = true
  la : lastTs (maxTs st) op ≤ last
theorem lead_iff {last : Int} {st : List Ver} {op : List Tx} : leadB last st op = true ↔ LeadP last st op := by
  constructor
  · intro h
    simp only [leadB, Bool.and_eq_true, decide_eq_true_eq] at h
    exact ⟨(sto_iff st).1 h.1.1.1.1.1, by omega, by omega, by omega, h.1.2, by omega⟩
  · intro h
    simp only [leadB, Bool.and_eq_true, decide_eq_true_eq]
    exact ⟨⟨⟨⟨⟨(sto_iff st).2 h.sto, h.bd⟩, h.ol⟩, h.sz⟩, h.ch⟩, h.la⟩
theorem wlen_app (a b : List Tx) : wlen (a ++ b) = wlen a + wlen b := by simp [wlen]
/-- a leader that shows its first transactions stays well-formed -/
theorem lead_show {last : Int} {st : List Ver} {op : List Tx} (h : leadB last st op = true) (n : Nat) : leadB last (stAt st op n 0) (op.drop n) = true := by
  have hp := lead_iff.1 h
  have had := (lead_adds h).2
  have hst : stAt st op n 0 = putsL st ((op.take n).flatMap verT) := stAt_zero _ _ _
  have e : op.flatMap verT = (op.take n).flatMap verT ++ (op.drop n).flatMap verT := by rw [← List.flatMap_append, List.take_append_drop]
  rw [e] at had
  have hs := puts_sto hp.sto had.left
  have hch := hp.ch
  rw [← List.take_append_drop n op, chainB_app, Bool.and_eq_true] at hch
  have hla := hp.la
  rw [← List.take_append_drop n op, lastTs_app] at hla
  have hcl := chain_last hch.1
  have hm0 := (maxTs_ge st 0).1
  have hmx : maxTs (stAt st op n 0) ≤ lastTs (maxTs st) (op.take n) := by
    refine maxTs_le (Int.le_trans hm0 hcl.1) fun v hv => ?_
    rw [hst] at hv
    rcases List.mem_append.1 ((puts_perm _ _).mem_iff.1 hv) with hv | hv
    · obtain ⟨t, ht, hvt⟩ := List.mem_flatMap.1 hv
      rw [verT_ts hvt]
      exact hcl.2 t ht
    · exact Int.le_trans ((maxTs_ge st 0).2 v hv) hcl.1
  refine lead_iff.2 ⟨by rw [hst]; exact hs.1, hp.bd, by have := hp.ol; simp; omega, ?_, chain_mono hmx hch.2, Int.le_trans (last_mono hmx _) hla⟩
  rw [hst, hs.2, adds_wlen]
  have := hp.sz
  rw [← List.take_append_drop n op, wlen_app] at this
  omega
theorem form_at {t : Tx} {T : Int} (h : formB t = true) (hT : 0 ≤ T ∧ T ≤ 3000000000000000) : formB (t.at T) = true := by
  simp only [formB, Bool.and_eq_true, decide_eq_true_eq] at h ⊢
  exact ⟨⟨⟨h.1.1.1, hT⟩, h.1.2⟩, h.2⟩
/-- a leader that stamps a transaction stays well-formed -/
theorem lead_stamp {last T : Int} {st : List Ver} {op : List Tx} {t : Tx} (h : leadB last st op = true) (hf : formB t = true) (hn : op.length ≠ 2000) (hz : st.length + wlen op + t.writes.length ≤ 4000) (hT : last < T ∧ T ≤ 3000000000000000) : leadB T st (op ++ [t.at T]) = true := by
  have hp := lead_iff.1 h
  have hb := hp.bd
  refine lead_iff.2 ⟨hp.sto, by omega, by have := hp.ol; simp; omega, ?_, ?_, ?_⟩
  · rw [wlen_snoc]
    show st.length + (wlen op + t.writes.length) ≤ 4000
    omega
  · rw [chainB_snoc, Bool.and_eq_true, Bool.and_eq_true, decide_eq_true_eq]
    exact ⟨hp.ch, form_at hf (by omega), by have := hp.la; show lastTs (maxTs st) op < T; omega⟩
  · rw [lastTs_snoc]
    exact Int.le_refl _
/-- what a stamp that succeeds says -/
theorem stamp_ok {D : LD} {t : Tx} {lo hi : Int} (h : (stampS D t lo hi).2.2 = 0) :
    leadB D.last D.st D.op = true ∧ ivB lo hi = true ∧ formB t = true ∧ t.ts = 0 ∧ t.reads.any (oldS (newestLS D)) = false ∧ D.op.length ≠ 2000 ∧ D.st.length + wlen D.op + t.writes.length ≤ 4000 ∧ max (D.last + 1) hi ≤ 3000000000000000 ∧
      stampS D t lo hi = (⟨max (D.last + 1) hi, D.st, D.op ++ [t.at (max (D.last + 1) hi)]⟩, t.at (max (D.last + 1) hi), 0) := by
  rcases stamp_cases D t lo hi with ⟨_, hr⟩ | ⟨q1, ⟨_, hr⟩ | ⟨q2, ⟨_, hr⟩ | ⟨q3, ⟨_, hr⟩ | ⟨q4, ⟨_, hr⟩ | ⟨q5, ⟨_, hr⟩ | ⟨q6, ⟨_, hr⟩ | ⟨q7, ⟨_, hr⟩ | ⟨q8, hr⟩⟩⟩⟩⟩⟩⟩⟩
  all_goals try (rw [hr] at h; exact absurd h (by decide))
  exact ⟨q1, q2, q3, q4, q5, q6, q7, q8, hr⟩
/-- what a stamp that fails says -/
theorem stamp_bad {D : LD} {t : Tx} {lo hi : Int} (h : (stampS D t lo hi).2.2 ≠ 0) : (stampS D t lo hi).1 = LD.zero ∧ (stampS D t lo hi).2.1 = Tx.zero := by
  rcases stamp_cases D t lo hi with ⟨_, hr⟩ | ⟨q1, ⟨_, hr⟩ | ⟨q2, ⟨_, hr⟩ | ⟨q3, ⟨_, hr⟩ | ⟨q4, ⟨_, hr⟩ | ⟨q5, ⟨_, hr⟩ | ⟨q6, ⟨_, hr⟩ | ⟨q7, ⟨_, hr⟩ | ⟨q8, hr⟩⟩⟩⟩⟩⟩⟩⟩
  all_goals (rw [hr] at h ⊢)
  all_goals first | exact ⟨rfl, rfl⟩ | exact absurd rfl h
theorem show_ok {D : LD} {lo hi : Int} (h : (showS D lo hi).2.2 = 0) : leadB D.last D.st D.op = true ∧ ivB lo hi = true ∧ showS D lo hi = (⟨D.last, stAt D.st D.op (pastN D.op lo) 0, D.op.drop (pastN D.op lo)⟩, D.op.take (pastN D.op lo), 0) := by
  unfold showS at h ⊢
  cases h1 : leadB D.last D.st D.op <;> cases h2 : ivB lo hi <;> simp [h1, h2] at h ⊢
end Go.Proofs.Ytficjpfhakggmaa

namespace Go.Proofs.Ytficjpfhakggmaa
open Go.RowKit Go.Maps
/-- an interval around a time -/
def aroundS (at_ l r : Int) : (Int × Int) × Bool :=
  if at_ < 0 ∨ 3000000000000000 < at_ ∨ l < 0 ∨ r < 0 ∨ 1000000000000 < l ∨ 1000000000000 < r then ((0, 0), false) else ((max 0 (at_ - l), min 3000000000000000 (at_ + r)), true)
theorem LdW.frame {B : Nat} {w W : World} {M : LdV} {v : TxV} {g : Nat} (hf : FrX B M v) (hg : g < B) (h : LdW w M) (hs : w.heap.size ≤ W.heap.size) (hk : ∀ k, k ≠ g → W.heap[k]? = w.heap[k]?) : LdW W M :=
  ⟨Rd.at_ h.s hs (fun a ha => hk _ (by have := hf.1 a ha; omega)), ⟨Rd.at_ h.o.row hs (fun a ha => hk _ (by have := hf.2.1 a ha; omega)), fun x hx => (h.o.each x hx).at_ hs (fun a ha => hk _ (by have := (hf.2.2.1 x hx).1 a ha; omega)) (fun a ha => hk _ (by have := (hf.2.2.1 x hx).2 a ha; omega))⟩, h.sl, h.sm, h.ol, h.om⟩
theorem TxW.frame {B : Nat} {w W : World} {M : LdV} {v : TxV} {g : Nat} (hf : FrX B M v) (hg : g < B) (h : TxW w v) (hs : w.heap.size ≤ W.heap.size) (hk : ∀ k, k ≠ g → W.heap[k]? = w.heap[k]?) : TxW W v :=
  h.at_ hs (fun a ha => hk _ (by have := hf.2.2.2.1 a ha; omega)) (fun a ha => hk _ (by have := hf.2.2.2.2 a ha; omega))
set_option maxRecDepth 100000 in
set_option maxHeartbeats 16000000 in
theorem usable_any (L : LdV) (w : World) (h : LdW w L) : Calls Try.prog 27 #[.agg #[.int .i64 L.last, .slice L.sa L.st.length L.sc, .slice L.oa L.op.length L.oc]] w fun e w' => e = .returned (.bool (fewLB L.d && L.ok)) ∧ Below w.heap.size w w' := by
  refine vc_enter (n := 9) Try.func27 rfl rfl rfl (fun a hK => ?_)
  replace hK := hK.weak (K' := [(0, .agg #[.int .i64 L.last, .slice L.sa L.st.length L.sc, .slice L.oa L.op.length L.oc])]) ⟨rfl, trivial⟩
  have hE := Ev.start w
  replace hE := hE.dat (p := fun W => LdW W L) (fun W hW => LdW.then_ h hW)
  refine wp_seq ?_
  refine wp_region_lit ?_
  refine st_new (d := 1) (v := fun g => .pointer (some ⟨g, 0, none⟩)) (cs := #[.int .i64 L.last, .slice L.sa L.st.length L.sc, .slice L.oa L.op.length L.oc]) (t := 25) hK hE rfl (fun _ _ => by kernel_rfl) rfl rfl ?_
  clear hK hE a; intro a g1 w2 _ _ hK hE
  refine st_op (d := 2) (v' := .bool false) (vs := []) (obs := []) hK rfl (fun _ => by kernel_rfl) trivial rfl rfl rfl ?_
  clear hK a; intro a hK
  refine wpList_nil ?_
  refine xt_norm ?_
  refine wp_seq ?_
  refine wp_region_lit ?_
  refine st_op (d := 3) (v' := .agg #[.int .i64 L.last, .slice L.sa L.st.length L.sc, .slice L.oa L.op.length L.oc]) (vs := [.int .i64 L.last, .slice L.sa L.st.length L.sc, .slice L.oa L.op.length L.oc]) (obs := [(⟨g1, 0, none⟩, .int .i64 L.last), (⟨g1, 1, none⟩, .slice L.sa L.st.length L.sc), (⟨g1, 2, none⟩, .slice L.oa L.op.length L.oc)]) hK rfl (fun _ => by kernel_rfl) ⟨((hE.blk 0 rfl).cell 0).trans rfl, ((hE.blk 0 rfl).cell 1).trans rfl, ((hE.blk 0 rfl).cell 2).trans rfl, trivial⟩ rfl rfl rfl ?_
  clear hK a; intro a hK
  refine st_call (d := 4) (f := 12) (args := #[.agg #[.int .i64 L.last, .slice L.sa L.st.length L.sc, .slice L.oa L.op.length L.oc]]) hK rfl (fun _ => by kernel_rfl) rfl rfl (few_any L _ (hE.get 1 rfl)) ?_
  rintro e w3 ⟨rfl, hb⟩
  refine ⟨_, rfl, ?_⟩
  clear hK a; intro a hK
  replace hE := hE.call hb
  clear hb
  refine st_op (d := 5) (v' := .bool (fewLB L.d)) (vs := []) (obs := []) hK rfl (fun _ => by kernel_rfl) trivial rfl rfl rfl ?_
  clear hK a; intro a hK
  rcases Bool.eq_false_or_eq_true (fewLB L.d) with hc4 | hc4
  · replace hK := hK.sub (d := 5) (v' := .bool true) rfl (congrArg Value.bool hc4)
    refine st_op (d := 6) (v' := .agg #[.int .i64 L.last, .slice L.sa L.st.length L.sc, .slice L.oa L.op.length L.oc]) (vs := [.int .i64 L.last, .slice L.sa L.st.length L.sc, .slice L.oa L.op.length L.oc]) (obs := [(⟨g1, 0, none⟩, .int .i64 L.last), (⟨g1, 1, none⟩, .slice L.sa L.st.length L.sc), (⟨g1, 2, none⟩, .slice L.oa L.op.length L.oc)]) hK rfl (fun _ => by kernel_rfl) ⟨((hE.blk 0 rfl).cell 0).trans rfl, ((hE.blk 0 rfl).cell 1).trans rfl, ((hE.blk 0 rfl).cell 2).trans rfl, trivial⟩ rfl rfl rfl ?_
    clear hK a; intro a hK
    refine st_call (d := 7) (f := 17) (args := #[.agg #[.int .i64 L.last, .slice L.sa L.st.length L.sc, .slice L.oa L.op.length L.oc]]) hK rfl (fun _ => by kernel_rfl) rfl rfl (rlv_any L _ (few_S hc4) (hE.get 1 rfl)) ?_
    rintro e w5 ⟨rfl, hb⟩
    refine ⟨_, rfl, ?_⟩
    clear hK a; intro a hK
    replace hE := hE.call hb
    clear hb
    refine st_op (d := 8) (v' := .bool L.ok) (vs := []) (obs := []) hK rfl (fun _ => by kernel_rfl) trivial rfl rfl rfl ?_
    clear hK a; intro a hK
    refine st_op (d := 2) (v' := .bool L.ok) (vs := []) (obs := []) hK rfl (fun _ => by kernel_rfl) trivial rfl rfl rfl ?_
    clear hK a; intro a hK
    refine wpList_nil ?_
    refine xt_norm ?_
    refine wp_ret ?_
    refine vc_ret (v' := .bool L.ok) (vs := []) (obs := []) hK (fun _ => by kernel_rfl) trivial rfl ?_
    exact ⟨by rw [hc4]; rfl, hE.b⟩
  · replace hK := hK.sub (d := 5) (v' := .bool false) rfl (congrArg Value.bool hc4)
    refine st_skip (d := 6) hK rfl rfl rfl ?_
    clear hK a; intro a hK
    refine st_skip (d := 7) hK rfl rfl rfl ?_
    clear hK a; intro a hK
    refine st_op (d := 8) (v' := .bool false) (vs := []) (obs := []) hK rfl (fun _ => by kernel_rfl) trivial rfl rfl rfl ?_
    clear hK a; intro a hK
    refine st_op (d := 2) (v' := .bool false) (vs := []) (obs := []) hK rfl (fun _ => by kernel_rfl) trivial rfl rfl rfl ?_
    clear hK a; intro a hK
    refine wpList_nil ?_
    refine xt_norm ?_
    refine wp_ret ?_
    refine vc_ret (v' := .bool false) (vs := []) (obs := []) hK (fun _ => by kernel_rfl) trivial rfl ?_
    exact ⟨by rw [hc4]; rfl, hE.b⟩
set_option maxRecDepth 100000 in
set_option maxHeartbeats 16000000 in
theorem around_any (at_ l r : Int) (w : World) : Calls Try.prog 28 #[.int .i64 at_, .int .i64 l, .int .i64 r] w fun e w' => e = .returned (.tuple #[.agg #[.int .i64 (aroundS at_ l r).1.1, .int .i64 (aroundS at_ l r).1.2], .bool (aroundS at_ l r).2]) ∧ Below w.heap.size w w' := by
  refine vc_enter (n := 40) Try.func28 rfl rfl rfl (fun a hK => ?_)
  replace hK := hK.weak (K' := [(0, .int .i64 at_), (1, .int .i64 l), (2, .int .i64 r)]) ⟨rfl, rfl, rfl, trivial⟩
  have hE := Ev.start w
  refine wp_seq ?_
  refine wp_region_lit ?_
  refine st_new (d := 6) (v := fun g => .pointer (some ⟨g, 0, none⟩)) (cs := #[.int .i64 0, .int .i64 0]) (t := 31) hK hE rfl (fun _ _ => by kernel_rfl) rfl rfl ?_
  clear hK hE a; intro a g1 w2 _ _ hK hE
  refine st_op (d := 7) (v' := .bool false) (vs := []) (obs := []) hK rfl (fun _ => by kernel_rfl) trivial rfl rfl rfl ?_
  clear hK a; intro a hK
  refine wpList_nil ?_
  refine xt_norm ?_
  refine wp_seq ?_
  refine wp_seq ?_
  refine wp_region_lit ?_
  refine st_op (d := 8) (v' := .int .i64 at_) (vs := []) (obs := []) hK rfl (fun _ => by kernel_rfl) trivial rfl rfl rfl ?_
  clear hK a; intro a hK
  refine st_op (d := 9) (v' := .bool (decide (at_ < 0))) (vs := []) (obs := []) hK rfl (fun _ => by kernel_rfl) trivial rfl rfl rfl ?_
  clear hK a; intro a hK
  refine st_op (d := 10) (v' := .bool (decide (at_ < 0))) (vs := []) (obs := []) hK rfl (fun _ => by kernel_rfl) trivial rfl rfl rfl ?_
  clear hK a; intro a hK
  rcases Bool.eq_false_or_eq_true (decide (at_ < 0)) with hc3 | hc3
  · have hc3p := of_decide_eq_true hc3
    replace hK := hK.sub (d := 10) (v' := .bool true) rfl (congrArg Value.bool hc3)
    refine st_skip (d := 11) hK rfl rfl rfl ?_
    clear hK a; intro a hK
    refine st_skip (d := 12) hK rfl rfl rfl ?_
    clear hK a; intro a hK
    refine st_op (d := 13) (v' := .bool true) (vs := []) (obs := []) hK rfl (fun _ => by kernel_rfl) trivial rfl rfl rfl ?_
    clear hK a; intro a hK
    refine st_op (d := 14) (v' := .bool true) (vs := []) (obs := []) hK rfl (fun _ => by kernel_rfl) trivial rfl rfl rfl ?_
    clear hK a; intro a hK
    refine st_skip (d := 15) hK rfl rfl rfl ?_
    clear hK a; intro a hK
    refine st_skip (d := 16) hK rfl rfl rfl ?_
    clear hK a; intro a hK
    refine st_op (d := 17) (v' := .bool true) (vs := []) (obs := []) hK rfl (fun _ => by kernel_rfl) trivial rfl rfl rfl ?_
    clear hK a; intro a hK
    refine st_op (d := 18) (v' := .bool true) (vs := []) (obs := []) hK rfl (fun _ => by kernel_rfl) trivial rfl rfl rfl ?_
    clear hK a; intro a hK
    refine st_skip (d := 19) hK rfl rfl rfl ?_
    clear hK a; intro a hK
    refine st_skip (d := 20) hK rfl rfl rfl ?_
    clear hK a; intro a hK
    refine st_op (d := 21) (v' := .bool true) (vs := []) (obs := []) hK rfl (fun _ => by kernel_rfl) trivial rfl rfl rfl ?_
    clear hK a; intro a hK
    refine st_op (d := 22) (v' := .bool true) (vs := []) (obs := []) hK rfl (fun _ => by kernel_rfl) trivial rfl rfl rfl ?_
    clear hK a; intro a hK
    refine st_skip (d := 23) hK rfl rfl rfl ?_
    clear hK a; intro a hK
    refine st_skip (d := 24) hK rfl rfl rfl ?_
    clear hK a; intro a hK
    refine st_op (d := 25) (v' := .bool true) (vs := []) (obs := []) hK rfl (fun _ => by kernel_rfl) trivial rfl rfl rfl ?_
    clear hK a; intro a hK
    refine st_op (d := 26) (v' := .bool true) (vs := []) (obs := []) hK rfl (fun _ => by kernel_rfl) trivial rfl rfl rfl ?_
    clear hK a; intro a hK
    refine st_skip (d := 27) hK rfl rfl rfl ?_
    clear hK a; intro a hK
    refine st_skip (d := 28) hK rfl rfl rfl ?_
    clear hK a; intro a hK
    refine st_op (d := 29) (v' := .bool true) (vs := []) (obs := []) hK rfl (fun _ => by kernel_rfl) trivial rfl rfl rfl ?_
    clear hK a; intro a hK
    refine wpList_nil ?_
    refine xt_norm ?_
    refine vc_cond (t := true) hK (fun _ => rfl) ?_
    rw [if_pos rfl]
    refine wp_seq ?_
    refine wp_region_lit ?_
    refine st_op (d := 30) (v' := .agg #[.int .i64 0, .int .i64 0]) (vs := []) (obs := []) hK rfl (fun _ => by kernel_rfl) trivial rfl rfl rfl ?_
    clear hK a; intro a hK
    refine st_store2 0 [(0, .int .i64 0), (1, .int .i64 0)] hK hE rfl rfl (fun _ => by kernel_rfl) rfl rfl rfl ?_
    clear hE; intro w4 hs_ hk_ hE
    clear hs_ hk_
    refine st_op (d := 7) (v' := .bool false) (vs := []) (obs := []) hK rfl (fun _ => by kernel_rfl) trivial rfl rfl rfl ?_
    clear hK a; intro a hK
    refine wpList_nil ?_
    refine xt_norm ?_
    refine wp_ret ?_
    refine xt_ret ?_
    refine vc_ret (v' := .tuple #[.agg #[.int .i64 0, .int .i64 0], .bool false]) (vs := [.int .i64 0, .int .i64 0]) (obs := [(⟨g1, 0, none⟩, .int .i64 0), (⟨g1, 1, none⟩, .int .i64 0)]) hK (fun _ => by kernel_rfl) ⟨((hE.blk 0 rfl).cell 0).trans rfl, ((hE.blk 0 rfl).cell 1).trans rfl, trivial⟩ rfl ?_
    refine ⟨by unfold aroundS; first | (rw [if_neg (by omega)]) | (rw [if_pos (by omega)]), hE.b⟩
  · have hc3p := of_decide_eq_false hc3
    replace hK := hK.sub (d := 10) (v' := .bool false) rfl (congrArg Value.bool hc3)
    refine st_op (d := 11) (v' := .int .i64 at_) (vs := []) (obs := []) hK rfl (fun _ => by kernel_rfl) trivial rfl rfl rfl ?_
    clear hK a; intro a hK
    refine st_op (d := 12) (v' := .bool (decide (at_ > 3000000000000000))) (vs := []) (obs := []) hK rfl (fun _ => by kernel_rfl) trivial rfl rfl rfl ?_
    clear hK a; intro a hK
    refine st_op (d := 13) (v' := .bool (decide (at_ > 3000000000000000))) (vs := []) (obs := []) hK rfl (fun _ => by kernel_rfl) trivial rfl rfl rfl ?_
    clear hK a; intro a hK
    refine st_op (d := 14) (v' := .bool (decide (at_ > 3000000000000000))) (vs := []) (obs := []) hK rfl (fun _ => by kernel_rfl) trivial rfl rfl rfl ?_
    clear hK a; intro a hK
    rcases Bool.eq_false_or_eq_true (decide (at_ > 3000000000000000)) with hc5 | hc5
    · have hc5p := of_decide_eq_true hc5
      replace hK := hK.sub (d := 14) (v' := .bool true) rfl (congrArg Value.bool hc5)
      refine st_skip (d := 15) hK rfl rfl rfl ?_
      clear hK a; intro a hK
      refine st_skip (d := 16) hK rfl rfl rfl ?_
      clear hK a; intro a hK
      refine st_op (d := 17) (v' := .bool true) (vs := []) (obs := []) hK rfl (fun _ => by kernel_rfl) trivial rfl rfl rfl ?_
      clear hK a; intro a hK
      refine st_op (d := 18) (v' := .bool true) (vs := []) (obs := []) hK rfl (fun _ => by kernel_rfl) trivial rfl rfl rfl ?_
      clear hK a; intro a hK
      refine st_skip (d := 19) hK rfl rfl rfl ?_
      clear hK a; intro a hK
      refine st_skip (d := 20) hK rfl rfl rfl ?_
      clear hK a; intro a hK
      refine st_op (d := 21) (v' := .bool true) (vs := []) (obs := []) hK rfl (fun _ => by kernel_rfl) trivial rfl rfl rfl ?_
      clear hK a; intro a hK
      refine st_op (d := 22) (v' := .bool true) (vs := []) (obs := []) hK rfl (fun _ => by kernel_rfl) trivial rfl rfl rfl ?_
      clear hK a; intro a hK
      refine st_skip (d := 23) hK rfl rfl rfl ?_
      clear hK a; intro a hK
      refine st_skip (d := 24) hK rfl rfl rfl ?_
      clear hK a; intro a hK
      refine st_op (d := 25) (v' := .bool true) (vs := []) (obs := []) hK rfl (fun _ => by kernel_rfl) trivial rfl rfl rfl ?_
      clear hK a; intro a hK
      refine st_op (d := 26) (v' := .bool true) (vs := []) (obs := []) hK rfl (fun _ => by kernel_rfl) trivial rfl rfl rfl ?_
      clear hK a; intro a hK
      refine st_skip (d := 27) hK rfl rfl rfl ?_
      clear hK a; intro a hK
      refine st_skip (d := 28) hK rfl rfl rfl ?_
      clear hK a; intro a hK
      refine st_op (d := 29) (v' := .bool true) (vs := []) (obs := []) hK rfl (fun _ => by kernel_rfl) trivial rfl rfl rfl ?_
      clear hK a; intro a hK
      refine wpList_nil ?_
      refine xt_norm ?_
      refine vc_cond (t := true) hK (fun _ => rfl) ?_
      rw [if_pos rfl]
      refine wp_seq ?_
      refine wp_region_lit ?_
      refine st_op (d := 30) (v' := .agg #[.int .i64 0, .int .i64 0]) (vs := []) (obs := []) hK rfl (fun _ => by kernel_rfl) trivial rfl rfl rfl ?_
      clear hK a; intro a hK
      refine st_store2 0 [(0, .int .i64 0), (1, .int .i64 0)] hK hE rfl rfl (fun _ => by kernel_rfl) rfl rfl rfl ?_
      clear hE; intro w6 hs_ hk_ hE
      clear hs_ hk_
      refine st_op (d := 7) (v' := .bool false) (vs := []) (obs := []) hK rfl (fun _ => by kernel_rfl) trivial rfl rfl rfl ?_
      clear hK a; intro a hK
      refine wpList_nil ?_
      refine xt_norm ?_
      refine wp_ret ?_
      refine xt_ret ?_
      refine vc_ret (v' := .tuple #[.agg #[.int .i64 0, .int .i64 0], .bool false]) (vs := [.int .i64 0, .int .i64 0]) (obs := [(⟨g1, 0, none⟩, .int .i64 0), (⟨g1, 1, none⟩, .int .i64 0)]) hK (fun _ => by kernel_rfl) ⟨((hE.blk 0 rfl).cell 0).trans rfl, ((hE.blk 0 rfl).cell 1).trans rfl, trivial⟩ rfl ?_
      refine ⟨by unfold aroundS; first | (rw [if_neg (by omega)]) | (rw [if_pos (by omega)]), hE.b⟩
    · have hc5p := of_decide_eq_false hc5
      replace hK := hK.sub (d := 14) (v' := .bool false) rfl (congrArg Value.bool hc5)
      refine st_op (d := 15) (v' := .int .i64 l) (vs := []) (obs := []) hK rfl (fun _ => by kernel_rfl) trivial rfl rfl rfl ?_
      clear hK a; intro a hK
      refine st_op (d := 16) (v' := .bool (decide (l < 0))) (vs := []) (obs := []) hK rfl (fun _ => by kernel_rfl) trivial rfl rfl rfl ?_
      clear hK a; intro a hK
      refine st_op (d := 17) (v' := .bool (decide (l < 0))) (vs := []) (obs := []) hK rfl (fun _ => by kernel_rfl) trivial rfl rfl rfl ?_
      clear hK a; intro a hK
      refine st_op (d := 18) (v' := .bool (decide (l < 0))) (vs := []) (obs := []) hK rfl (fun _ => by kernel_rfl) trivial rfl rfl rfl ?_
      clear hK a; intro a hK
      rcases Bool.eq_false_or_eq_true (decide (l < 0)) with hc7 | hc7
      · have hc7p := of_decide_eq_true hc7
        replace hK := hK.sub (d := 18) (v' := .bool true) rfl (congrArg Value.bool hc7)
        refine st_skip (d := 19) hK rfl rfl rfl ?_
        clear hK a; intro a hK
        refine st_skip (d := 20) hK rfl rfl rfl ?_
        clear hK a; intro a hK
        refine st_op (d := 21) (v' := .bool true) (vs := []) (obs := []) hK rfl (fun _ => by kernel_rfl) trivial rfl rfl rfl ?_
        clear hK a; intro a hK
        refine st_op (d := 22) (v' := .bool true) (vs := []) (obs := []) hK rfl (fun _ => by kernel_rfl) trivial rfl rfl rfl ?_
        clear hK a; intro a hK
        refine st_skip (d := 23) hK rfl rfl rfl ?_
        clear hK a; intro a hK
        refine st_skip (d := 24) hK rfl rfl rfl ?_
        clear hK a; intro a hK
        refine st_op (d := 25) (v' := .bool true) (vs := []) (obs := []) hK rfl (fun _ => by kernel_rfl) trivial rfl rfl rfl ?_
        clear hK a; intro a hK
        refine st_op (d := 26) (v' := .bool true) (vs := []) (obs := []) hK rfl (fun _ => by kernel_rfl) trivial rfl rfl rfl ?_
        clear hK a; intro a hK
        refine st_skip (d := 27) hK rfl rfl rfl ?_
        clear hK a; intro a hK
        refine st_skip (d := 28) hK rfl rfl rfl ?_
        clear hK a; intro a hK
        refine st_op (d := 29) (v' := .bool true) (vs := []) (obs := []) hK rfl (fun _ => by kernel_rfl) trivial rfl rfl rfl ?_
        clear hK a; intro a hK
        refine wpList_nil ?_
        refine xt_norm ?_
        refine vc_cond (t := true) hK (fun _ => rfl) ?_
        rw [if_pos rfl]
        refine wp_seq ?_
        refine wp_region_lit ?_
        refine st_op (d := 30) (v' := .agg #[.int .i64 0, .int .i64 0]) (vs := []) (obs := []) hK rfl (fun _ => by kernel_rfl) trivial rfl rfl rfl ?_
        clear hK a; intro a hK
        refine st_store2 0 [(0, .int .i64 0), (1, .int .i64 0)] hK hE rfl rfl (fun _ => by kernel_rfl) rfl rfl rfl ?_
        clear hE; intro w8 hs_ hk_ hE
        clear hs_ hk_
        refine st_op (d := 7) (v' := .bool false) (vs := []) (obs := []) hK rfl (fun _ => by kernel_rfl) trivial rfl rfl rfl ?_
        clear hK a; intro a hK
        refine wpList_nil ?_
        refine xt_norm ?_
        refine wp_ret ?_
        refine xt_ret ?_
        refine vc_ret (v' := .tuple #[.agg #[.int .i64 0, .int .i64 0], .bool false]) (vs := [.int .i64 0, .int .i64 0]) (obs := [(⟨g1, 0, none⟩, .int .i64 0), (⟨g1, 1, none⟩, .int .i64 0)]) hK (fun _ => by kernel_rfl) ⟨((hE.blk 0 rfl).cell 0).trans rfl, ((hE.blk 0 rfl).cell 1).trans rfl, trivial⟩ rfl ?_
        refine ⟨by unfold aroundS; first | (rw [if_neg (by omega)]) | (rw [if_pos (by omega)]), hE.b⟩
      · have hc7p := of_decide_eq_false hc7
        replace hK := hK.sub (d := 18) (v' := .bool false) rfl (congrArg Value.bool hc7)
        refine st_op (d := 19) (v' := .int .i64 r) (vs := []) (obs := []) hK rfl (fun _ => by kernel_rfl) trivial rfl rfl rfl ?_
        clear hK a; intro a hK
        refine st_op (d := 20) (v' := .bool (decide (r < 0))) (vs := []) (obs := []) hK rfl (fun _ => by kernel_rfl) trivial rfl rfl rfl ?_
        clear hK a; intro a hK
        refine st_op (d := 21) (v' := .bool (decide (r < 0))) (vs := []) (obs := []) hK rfl (fun _ => by kernel_rfl) trivial rfl rfl rfl ?_
        clear hK a; intro a hK
        refine st_op (d := 22) (v' := .bool (decide (r < 0))) (vs := []) (obs := []) hK rfl (fun _ => by kernel_rfl) trivial rfl rfl rfl ?_
        clear hK a; intro a hK
        rcases Bool.eq_false_or_eq_true (decide (r < 0)) with hc9 | hc9
        · have hc9p := of_decide_eq_true hc9
          replace hK := hK.sub (d := 22) (v' := .bool true) rfl (congrArg Value.bool hc9)
          refine st_skip (d := 23) hK rfl rfl rfl ?_
          clear hK a; intro a hK
          refine st_skip (d := 24) hK rfl rfl rfl ?_
          clear hK a; intro a hK
          refine st_op (d := 25) (v' := .bool true) (vs := []) (obs := []) hK rfl (fun _ => by kernel_rfl) trivial rfl rfl rfl ?_
          clear hK a; intro a hK
          refine st_op (d := 26) (v' := .bool true) (vs := []) (obs := []) hK rfl (fun _ => by kernel_rfl) trivial rfl rfl rfl ?_
          clear hK a; intro a hK
          refine st_skip (d := 27) hK rfl rfl rfl ?_
          clear hK a; intro a hK
          refine st_skip (d := 28) hK rfl rfl rfl ?_
          clear hK a; intro a hK
          refine st_op (d := 29) (v' := .bool true) (vs := []) (obs := []) hK rfl (fun _ => by kernel_rfl) trivial rfl rfl rfl ?_
          clear hK a; intro a hK
          refine wpList_nil ?_
          refine xt_norm ?_
          refine vc_cond (t := true) hK (fun _ => rfl) ?_
          rw [if_pos rfl]
          refine wp_seq ?_
          refine wp_region_lit ?_
          refine st_op (d := 30) (v' := .agg #[.int .i64 0, .int .i64 0]) (vs := []) (obs := []) hK rfl (fun _ => by kernel_rfl) trivial rfl rfl rfl ?_
          clear hK a; intro a hK
          refine st_store2 0 [(0, .int .i64 0), (1, .int .i64 0)] hK hE rfl rfl (fun _ => by kernel_rfl) rfl rfl rfl ?_
          clear hE; intro w10 hs_ hk_ hE
          clear hs_ hk_
          refine st_op (d := 7) (v' := .bool false) (vs := []) (obs := []) hK rfl (fun _ => by kernel_rfl) trivial rfl rfl rfl ?_
          clear hK a; intro a hK
          refine wpList_nil ?_
          refine xt_norm ?_
          refine wp_ret ?_
          refine xt_ret ?_
          refine vc_ret (v' := .tuple #[.agg #[.int .i64 0, .int .i64 0], .bool false]) (vs := [.int .i64 0, .int .i64 0]) (obs := [(⟨g1, 0, none⟩, .int .i64 0), (⟨g1, 1, none⟩, .int .i64 0)]) hK (fun _ => by kernel_rfl) ⟨((hE.blk 0 rfl).cell 0).trans rfl, ((hE.blk 0 rfl).cell 1).trans rfl, trivial⟩ rfl ?_
          refine ⟨by unfold aroundS; first | (rw [if_neg (by omega)]) | (rw [if_pos (by omega)]), hE.b⟩
        · have hc9p := of_decide_eq_false hc9
          replace hK := hK.sub (d := 22) (v' := .bool false) rfl (congrArg Value.bool hc9)
          refine st_op (d := 23) (v' := .int .i64 l) (vs := []) (obs := []) hK rfl (fun _ => by kernel_rfl) trivial rfl rfl rfl ?_
          clear hK a; intro a hK
          refine st_op (d := 24) (v' := .bool (decide (l > 1000000000000))) (vs := []) (obs := []) hK rfl (fun _ => by kernel_rfl) trivial rfl rfl rfl ?_
          clear hK a; intro a hK
          refine st_op (d := 25) (v' := .bool (decide (l > 1000000000000))) (vs := []) (obs := []) hK rfl (fun _ => by kernel_rfl) trivial rfl rfl rfl ?_
          clear hK a; intro a hK
          refine st_op (d := 26) (v' := .bool (decide (l > 1000000000000))) (vs := []) (obs := []) hK rfl (fun _ => by kernel_rfl) trivial rfl rfl rfl ?_
          clear hK a; intro a hK
          rcases Bool.eq_false_or_eq_true (decide (l > 1000000000000)) with hc11 | hc11
          · have hc11p := of_decide_eq_true hc11
            replace hK := hK.sub (d := 26) (v' := .bool true) rfl (congrArg Value.bool hc11)
            refine st_skip (d := 27) hK rfl rfl rfl ?_
            clear hK a; intro a hK
            refine st_skip (d := 28) hK rfl rfl rfl ?_
            clear hK a; intro a hK
            refine st_op (d := 29) (v' := .bool true) (vs := []) (obs := []) hK rfl (fun _ => by kernel_rfl) trivial rfl rfl rfl ?_
            clear hK a; intro a hK
            refine wpList_nil ?_
            refine xt_norm ?_
            refine vc_cond (t := true) hK (fun _ => rfl) ?_
            rw [if_pos rfl]
            refine wp_seq ?_
            refine wp_region_lit ?_
            refine st_op (d := 30) (v' := .agg #[.int .i64 0, .int .i64 0]) (vs := []) (obs := []) hK rfl (fun _ => by kernel_rfl) trivial rfl rfl rfl ?_
            clear hK a; intro a hK
            refine st_store2 0 [(0, .int .i64 0), (1, .int .i64 0)] hK hE rfl rfl (fun _ => by kernel_rfl) rfl rfl rfl ?_
            clear hE; intro w12 hs_ hk_ hE
            clear hs_ hk_
            refine st_op (d := 7) (v' := .bool false) (vs := []) (obs := []) hK rfl (fun _ => by kernel_rfl) trivial rfl rfl rfl ?_
            clear hK a; intro a hK
            refine wpList_nil ?_
            refine xt_norm ?_
            refine wp_ret ?_
            refine xt_ret ?_
            refine vc_ret (v' := .tuple #[.agg #[.int .i64 0, .int .i64 0], .bool false]) (vs := [.int .i64 0, .int .i64 0]) (obs := [(⟨g1, 0, none⟩, .int .i64 0), (⟨g1, 1, none⟩, .int .i64 0)]) hK (fun _ => by kernel_rfl) ⟨((hE.blk 0 rfl).cell 0).trans rfl, ((hE.blk 0 rfl).cell 1).trans rfl, trivial⟩ rfl ?_
            refine ⟨by unfold aroundS; first | (rw [if_neg (by omega)]) | (rw [if_pos (by omega)]), hE.b⟩
          · have hc11p := of_decide_eq_false hc11
            replace hK := hK.sub (d := 26) (v' := .bool false) rfl (congrArg Value.bool hc11)
            refine st_op (d := 27) (v' := .int .i64 r) (vs := []) (obs := []) hK rfl (fun _ => by kernel_rfl) trivial rfl rfl rfl ?_
            clear hK a; intro a hK
            refine st_op (d := 28) (v' := .bool (decide (r > 1000000000000))) (vs := []) (obs := []) hK rfl (fun _ => by kernel_rfl) trivial rfl rfl rfl ?_
            clear hK a; intro a hK
            refine st_op (d := 29) (v' := .bool (decide (r > 1000000000000))) (vs := []) (obs := []) hK rfl (fun _ => by kernel_rfl) trivial rfl rfl rfl ?_
            clear hK a; intro a hK
            refine wpList_nil ?_
            refine xt_norm ?_
            rcases Bool.eq_false_or_eq_true (decide (r > 1000000000000)) with hc13 | hc13
            · have hc13p := of_decide_eq_true hc13
              replace hK := hK.sub (d := 29) (v' := .bool true) rfl (congrArg Value.bool hc13)
              refine vc_cond (t := true) hK (fun _ => rfl) ?_
              rw [if_pos rfl]
              refine wp_seq ?_
              refine wp_region_lit ?_
              refine st_op (d := 30) (v' := .agg #[.int .i64 0, .int .i64 0]) (vs := []) (obs := []) hK rfl (fun _ => by kernel_rfl) trivial rfl rfl rfl ?_
              clear hK a; intro a hK
              refine st_store2 0 [(0, .int .i64 0), (1, .int .i64 0)] hK hE rfl rfl (fun _ => by kernel_rfl) rfl rfl rfl ?_
              clear hE; intro w14 hs_ hk_ hE
              clear hs_ hk_
              refine st_op (d := 7) (v' := .bool false) (vs := []) (obs := []) hK rfl (fun _ => by kernel_rfl) trivial rfl rfl rfl ?_
              clear hK a; intro a hK
              refine wpList_nil ?_
              refine xt_norm ?_
              refine wp_ret ?_
              refine xt_ret ?_
              refine vc_ret (v' := .tuple #[.agg #[.int .i64 0, .int .i64 0], .bool false]) (vs := [.int .i64 0, .int .i64 0]) (obs := [(⟨g1, 0, none⟩, .int .i64 0), (⟨g1, 1, none⟩, .int .i64 0)]) hK (fun _ => by kernel_rfl) ⟨((hE.blk 0 rfl).cell 0).trans rfl, ((hE.blk 0 rfl).cell 1).trans rfl, trivial⟩ rfl ?_
              refine ⟨by unfold aroundS; first | (rw [if_neg (by omega)]) | (rw [if_pos (by omega)]), hE.b⟩
            · have hc13p := of_decide_eq_false hc13
              replace hK := hK.sub (d := 29) (v' := .bool false) rfl (congrArg Value.bool hc13)
              refine vc_cond (t := false) hK (fun _ => rfl) ?_
              rw [if_neg (by simp)]
              refine wp_skip ?_
              refine xt_norm ?_
              refine wp_seq ?_
              refine wp_region_lit ?_
              refine st_op (d := 31) (v' := .int .i64 at_) (vs := []) (obs := []) hK rfl (fun _ => by kernel_rfl) trivial rfl rfl rfl ?_
              clear hK a; intro a hK
              refine st_op (d := 32) (v' := .int .i64 l) (vs := []) (obs := []) hK rfl (fun _ => by kernel_rfl) trivial rfl rfl rfl ?_
              clear hK a; intro a hK
              refine st_op (d := 33) (v' := .int .i64 (IntKind.i64.wrap (at_ - l))) (v := .int .i64 (at_ - l)) (vs := []) (obs := []) hK rfl (fun _ => by kernel_rfl) trivial (congrArg (Value.int .i64) (IntWalk.i64_in _ (by omega))) rfl rfl ?_
              clear hK a; intro a hK
              refine st_op (d := 34) (v' := .int .i64 (if (at_ - l) > 0 then (at_ - l) else 0)) (v := .int .i64 (max 0 (at_ - l))) (vs := []) (obs := []) hK rfl (fun _ => by kernel_rfl) trivial (congrArg (Value.int .i64) (by omega)) rfl rfl ?_
              clear hK a; intro a hK
              refine st_op (d := 35) (v' := .int .i64 at_) (vs := []) (obs := []) hK rfl (fun _ => by kernel_rfl) trivial rfl rfl rfl ?_
              clear hK a; intro a hK
              refine st_op (d := 36) (v' := .int .i64 r) (vs := []) (obs := []) hK rfl (fun _ => by kernel_rfl) trivial rfl rfl rfl ?_
              clear hK a; intro a hK
              refine st_op (d := 37) (v' := .int .i64 (IntKind.i64.wrap (at_ + r))) (v := .int .i64 (at_ + r)) (vs := []) (obs := []) hK rfl (fun _ => by kernel_rfl) trivial (congrArg (Value.int .i64) (IntWalk.i64_in _ (by omega))) rfl rfl ?_
              clear hK a; intro a hK
              refine st_op (d := 38) (v' := .int .i64 (if (at_ + r) < 3000000000000000 then (at_ + r) else 3000000000000000)) (v := .int .i64 (min 3000000000000000 (at_ + r))) (vs := []) (obs := []) hK rfl (fun _ => by kernel_rfl) trivial (congrArg (Value.int .i64) (by omega)) rfl rfl ?_
              clear hK a; intro a hK
              refine st_op (d := 39) (v' := .agg #[.int .i64 (max 0 (at_ - l)), .int .i64 (min 3000000000000000 (at_ + r))]) (vs := []) (obs := []) hK rfl (fun _ => by kernel_rfl) trivial rfl rfl rfl ?_
              clear hK a; intro a hK
              refine st_store2 0 [(0, .int .i64 (max 0 (at_ - l))), (1, .int .i64 (min 3000000000000000 (at_ + r)))] hK hE rfl rfl (fun _ => by kernel_rfl) rfl rfl rfl ?_
              clear hE; intro w15 hs_ hk_ hE
              clear hs_ hk_
              refine st_op (d := 7) (v' := .bool true) (vs := []) (obs := []) hK rfl (fun _ => by kernel_rfl) trivial rfl rfl rfl ?_
              clear hK a; intro a hK
              refine wpList_nil ?_
              replace hK := hK.weak (K' := [(6, .pointer (some ⟨g1, 0, none⟩)), (7, .bool true)]) ⟨rfl, rfl, trivial⟩
              refine xt_norm ?_
              refine wp_ret ?_
              refine vc_ret (v' := .tuple #[.agg #[.int .i64 (max 0 (at_ - l)), .int .i64 (min 3000000000000000 (at_ + r))], .bool true]) (vs := [.int .i64 (max 0 (at_ - l)), .int .i64 (min 3000000000000000 (at_ + r))]) (obs := [(⟨g1, 0, none⟩, .int .i64 (max 0 (at_ - l))), (⟨g1, 1, none⟩, .int .i64 (min 3000000000000000 (at_ + r)))]) hK (fun _ => by kernel_rfl) ⟨((hE.blk 0 rfl).cell 0).trans rfl, ((hE.blk 0 rfl).cell 1).trans rfl, trivial⟩ rfl ?_
              refine ⟨by unfold aroundS; first | (rw [if_neg (by omega)]) | (rw [if_pos (by omega)]), hE.b⟩
end Go.Proofs.Ytficjpfhakggmaa

namespace Go.Proofs.Ytficjpfhakggmaa
theorem rises_law {D : LD} {t : Tx} {lo hi : Int} (h : (stampS D t lo hi).2.2 = 0) :
    D.last < (stampS D t lo hi).2.1.ts ∧ hi ≤ (stampS D t lo hi).2.1.ts ∧ ((stampS D t lo hi).2.1.ts = D.last + 1 ∨ (stampS D t lo hi).2.1.ts = hi) ∧ t.at (stampS D t lo hi).2.1.ts = (stampS D t lo hi).2.1 ∧
      leadB (stampS D t lo hi).1.last (stampS D t lo hi).1.st (stampS D t lo hi).1.op = true ∧ (stampS D t lo hi).1.last = (stampS D t lo hi).2.1.ts ∧ (stampS D t lo hi).1.op = D.op ++ [(stampS D t lo hi).2.1] ∧ (stampS D t lo hi).1.st = D.st ∧ leadB D.last D.st D.op = true := by
  obtain ⟨q1, q2, q3, q4, q5, q6, q7, q8, hr⟩ := stamp_ok h
  rw [hr]
  have hl := lead_stamp q1 q3 q6 q7 (T := max (D.last + 1) hi) ⟨by omega, q8⟩
  refine ⟨?_, ?_, ?_, rfl, hl, rfl, rfl, rfl, q1⟩
  · show D.last < max (D.last + 1) hi; omega
  · show hi ≤ max (D.last + 1) hi; omega
  · show max (D.last + 1) hi = D.last + 1 ∨ max (D.last + 1) hi = hi; omega
theorem shown_law {D : LD} {lo hi : Int} (h : (showS D lo hi).2.2 = 0) : leadB (showS D lo hi).1.last (showS D lo hi).1.st (showS D lo hi).1.op = true ∧ (showS D lo hi).1.last = D.last := by
  obtain ⟨q1, q2, hr⟩ := show_ok h
  rw [hr]
  exact ⟨lead_show q1 _, rfl⟩
theorem ok_of {M : LdV} {D : LD} (h : M.d = D) (hl : leadB D.last D.st D.op = true) : M.ok = true := by
  subst h
  exact hl
theorem last_of {M : LdV} {D : LD} (h : M.d = D) : M.last = D.last := by rw [← h]; rfl
theorem op_of {M : LdV} {D : LD} (h : M.d = D) : txs M.op = D.op := by rw [← h]; rfl
theorem LdS.stamped {L M : LdV} {t : Tx} {lo hi : Int} (hL : fewLB L.d = true) (ht : t.reads.length ≤ 100 ∧ t.writes.length ≤ 100) (h : (stampS L.d t lo hi).2.2 = 0) (hM : M.d = (stampS L.d t lo hi).1) : LdS M := by
  obtain ⟨q1, q2, q3, q4, q5, q6, q7, q8, hr⟩ := stamp_ok h
  rw [hr] at hM
  obtain ⟨f1, f2, f3⟩ := few_small hL
  refine LdS.of hM ⟨by simp; omega, fun x hx => ?_⟩ (by have : L.d.st.length ≤ 60 := f1; show L.d.st.length ≤ 1000000; omega)
  rcases List.mem_append.1 hx with hx | hx
  · exact f2.each x hx
  · obtain rfl : x = t.at (max (L.d.last + 1) hi) := by simpa using hx
    exact ht
theorem LdS.shown {L M : LdV} {lo hi : Int} (hL : LdS L) (h : (showS L.d lo hi).2.2 = 0) (hM : M.d = (showS L.d lo hi).1) : LdS M := by
  obtain ⟨q1, q2, hr⟩ := show_ok h
  have hk := (shown_law h).1
  rw [hr] at hM hk
  have hp := lead_iff.1 hk
  refine LdS.of hM ⟨hp.ol, fun x hx => hL.small.each x (List.mem_of_mem_drop hx)⟩ (by have := hp.sz; show _ ≤ 1000000; omega)
theorem TxW.at_ts {w : World} {v : TxV} (h : TxW w v) (T : Int) : TxW w ⟨v.t.at T, v.ra, v.rc, v.wa, v.wc⟩ := ⟨h.r, h.s, h.rl, h.rm, h.wl, h.wm⟩
theorem lead_bd {L : LdV} (h : L.ok = true) : 0 ≤ L.last ∧ L.last ≤ 3000000000000000 := (lead_iff.1 h).bd
theorem LitL.of {D : LD} (h : LitD D) {M : LdV} (hM : M.d = D) : LitL M.op ∧ M.st.length ≤ 100000 ∧ M.op.length ≤ 100000 := h.l hM
end Go.Proofs.Ytficjpfhakggmaa

namespace Go.Proofs.Ytficjpfhakggmaa
theorem around_ok {a l r : Int} (h : (aroundS a l r).2 = true) : 0 ≤ a ∧ a ≤ 3000000000000000 ∧ (aroundS a l r).1.1 ≤ a ∧ a ≤ (aroundS a l r).1.2 ∧ ivB (aroundS a l r).1.1 (aroundS a l r).1.2 = true := by
  unfold aroundS at h ⊢
  split at h
  · simp at h
  · next hc =>
    rw [if_neg hc]
    refine ⟨by omega, by omega, by show max 0 (a - l) ≤ a; omega, by show a ≤ min 3000000000000000 (a + r); omega, ?_⟩
    simp only [ivB, Bool.and_eq_true, decide_eq_true_eq]
    omega
theorem show_all {D : LD} {lo hi : Int} (h : leadB D.last D.st D.op = true) (hi' : ivB lo hi = true) : (showS D lo hi).2.2 = 0 := by
  unfold showS
  rw [h, hi']
  rfl
theorem shown_lt {D : LD} {lo hi : Int} {k : Nat} {x : Tx} (h : (showS D lo hi).2.1[k]? = some x) : x.ts < lo := by
  unfold showS at h
  split at h
  · simp at h
  · have h2 : (D.op.take (pastN D.op lo))[k]? = some x := h
    obtain ⟨hk, rfl⟩ := List.getElem?_eq_some_iff.1 h2
    rw [List.getElem_take]
    rw [List.length_take] at hk
    exact pastN_lo (by omega) (by omega)
theorem txs_at {l : List TxV} {k : Nat} {x : TxV} (h : l[k]? = some x) : (txs l)[k]? = some x.t := by
  unfold txs
  rw [List.getElem?_map, h]
  rfl
theorem wrap_sum {a b : Int} (ha : 0 ≤ a ∧ a ≤ 3000000000000000) (hb : 0 ≤ b ∧ b ≤ 1000000000000) : IntKind.i64.wrap (a + b) = a + b := IntWalk.i64_in _ (by omega)
end Go.Proofs.Ytficjpfhakggmaa

namespace Go.Proofs.Ytficjpfhakggmaa
theorem readLL_def (D : LD) (key ts lo hi : Int) : readLL D key ts lo hi =
    if !leadB D.last D.st D.op || !ivB lo hi || !btw key 1 1000 || !btw ts 1 3000000000000000 then (Ver.zero, false, 1) else if (decide (0 < pastN D.op (ts + 1)) || (decide (D.last < ts) && decide (lo ≤ ts))) = true then (Ver.zero, false, 61) else atS D.st key ts := by
  unfold readLL readLS waitB LdV.ok
  simp only [txs_map]
theorem atS_bad {l : List Ver} {k t : Int} (h : (atS l k t).2.2 ≠ 0) : (atS l k t).2.2 = 1 ∧ (atS l k t).2.1 = false ∧ (atS l k t).1 = Ver.zero := by
  unfold atS at h ⊢
  split
  · exact ⟨rfl, rfl, rfl⟩
  · next h1 =>
    rw [if_neg h1] at h
    split
    · next h2 => rw [if_pos h2] at h; exact absurd rfl h
    · next h2 => rw [if_neg h2] at h; exact absurd rfl h
theorem read_bad {D : LD} {key ts lo hi : Int} (h : (readLL D key ts lo hi).2.2 ≠ 0) : ((readLL D key ts lo hi).2.2 = 1 ∨ (readLL D key ts lo hi).2.2 = 61) ∧ (readLL D key ts lo hi).2.1 = false ∧ (readLL D key ts lo hi).1 = Ver.zero := by
  rw [readLL_def] at h ⊢
  split
  · exact ⟨.inl rfl, rfl, rfl⟩
  · next h1 =>
    rw [if_neg h1] at h
    split
    · exact ⟨.inr rfl, rfl, rfl⟩
    · next h2 =>
      rw [if_neg h2] at h
      have := atS_bad h
      exact ⟨.inl this.1, this.2⟩
structure ReadP (D : LD) (key ts lo hi : Int) : Prop where
  ok : leadB D.last D.st D.op = true
  iv : ivB lo hi = true
  k : btw key 1 1000 = true
  t : btw ts 1 3000000000000000 = true
  p : pastN D.op (ts + 1) = 0
  l : ts ≤ D.last ∨ ts < lo
theorem read_of {D : LD} {key ts lo hi : Int} (h : ReadP D key ts lo hi) : readLL D key ts lo hi = atS D.st key ts := by
  rw [readLL_def, h.ok, h.iv, h.k, h.t, if_neg (by simp), if_neg]
  have h1 := h.p
  have h2 := h.l
  simp
  omega
theorem read_ok {D : LD} {key ts lo hi : Int} (h : (readLL D key ts lo hi).2.2 = 0) : ReadP D key ts lo hi := by
  rw [readLL_def] at h
  split at h
  · simp at h
  · next h1 =>
    split at h
    · simp at h
    · next h2 =>
      simp only [Bool.or_eq_true, Bool.not_eq_true', not_or, Bool.not_eq_false] at h1
      simp only [Bool.or_eq_true, Bool.and_eq_true, decide_eq_true_eq, not_or, not_and] at h2
      exact ⟨h1.1.1.1, h1.1.1.2, h1.1.2, h1.2, by omega, by omega⟩
theorem past_zero {m : Int} {l : List Tx} {a : Int} (hc : chainB m l = true) : pastN l a = 0 ↔ ∀ t ∈ l, a ≤ t.ts := by
  constructor
  · intro h t ht
    obtain ⟨i, hi, rfl⟩ := List.getElem_of_mem ht
    exact pastN_hi hc hi (by omega)
  · intro h
    rcases Nat.eq_zero_or_pos (pastN l a) with h0 | h0
    · exact h0
    · have hl := pastN_le l a
      have := pastN_lo (l := l) (a := a) (i := 0) (by omega) h0
      have := h l[0] (List.getElem_mem _)
      omega
theorem at_puts_miss {k t : Int} : ∀ {vs st : List Ver}, Sto st → Adds st vs → (∀ v ∈ vs, ¬(v.key = k ∧ v.ts ≤ t)) → atS (putsL st vs) k t = atS st k t
  | [], _, _, _, _ => rfl
  | v :: r, st, hs, ha, hm => by
    have hf := ha.first hs
    have hw := ha.wf v (by simp)
    have hn : newestR st v.key < v.ts := by
      rcases newest_in (l := st) (k := v.key) with e | ⟨x, hx, hk, ht⟩
      · simp only [wfB, Bool.and_eq_true, decide_eq_true_eq] at hw
        omega
      · have := ha.far x hx v (by simp) hk; omega
    have hl : st.length < 4000 := by have := ha.len; simp only [List.length_cons] at this; omega
    show atS (putsL (putL st v) r) k t = _
    rw [at_puts_miss hf.2 ha.next (fun u hu => hm u (by simp [hu])), atS_put_miss hs hw hn hl (hm v (by simp))]
/-- a leader that shows reads the same below what is open -/
theorem at_shown {last : Int} {st : List Ver} {op : List Tx} {key ts : Int} (h : leadB last st op = true) (hp : ∀ t ∈ op, ts + 1 ≤ t.ts) (n : Nat) : atS (stAt st op n 0) key ts = atS st key ts := by
  obtain ⟨hs, ha⟩ := lead_adds h
  have e : op.flatMap verT = (op.take n).flatMap verT ++ (op.drop n).flatMap verT := by rw [← List.flatMap_append, List.take_append_drop]
  rw [e] at ha
  rw [stAt_zero]
  refine at_puts_miss hs ha.left fun v hv => ?_
  obtain ⟨t, ht, hvt⟩ := List.mem_flatMap.1 hv
  have h1 := verT_ts hvt
  have h2 := hp t (List.mem_of_mem_take ht)
  omega
theorem lead_chain {last : Int} {st : List Ver} {op : List Tx} (h : leadB last st op = true) : chainB (maxTs st) op = true := (lead_iff.1 h).ch
/-- what is read by a leader M, behind which some are shown, is what was read -/
theorem stable_law {D M : LD} {key ts alo ahi clo chi : Int} (h : ReadP D key ts alo ahi) (hM : leadB M.last M.st M.op = true) (hst : M.st = D.st) (hp : ∀ t ∈ M.op, ts + 1 ≤ t.ts) (hc : ivB clo chi = true) :
    (showS M clo chi).2.2 = 0 ∧
      ((ts ≤ M.last ∨ ts < clo) → readLL (showS M clo chi).1 key ts clo chi = readLL D key ts alo ahi) ∧
      (¬(ts ≤ M.last ∨ ts < clo) → readLL (showS M clo chi).1 key ts clo chi = (Ver.zero, false, 61)) := by
  have h0 := show_all (D := M) hM hc
  obtain ⟨_, _, hr⟩ := show_ok h0
  have hk := lead_show hM (pastN M.op clo)
  have hpz : pastN (M.op.drop (pastN M.op clo)) (ts + 1) = 0 := (past_zero (lead_chain hk)).2 fun t ht => hp t (List.mem_of_mem_drop ht)
  refine ⟨h0, fun hl => ?_, fun hl => ?_⟩
  · rw [hr, read_of h, ← hst, ← at_shown hM hp (pastN M.op clo)]
    exact read_of ⟨hk, hc, h.k, h.t, hpz, hl⟩
  · rw [hr, readLL_def]
    show (if !leadB M.last (stAt M.st M.op (pastN M.op clo) 0) (M.op.drop (pastN M.op clo)) || !ivB clo chi || !btw key 1 1000 || !btw ts 1 3000000000000000 then _ else _) = _
    rw [hk, hc, h.k, h.t, if_neg (by simp), if_pos]
    simp
    omega
theorem stable_read {D M : LD} {key ts alo ahi clo chi : Int} (h : ReadP D key ts alo ahi) (hM : leadB M.last M.st M.op = true) (hst : M.st = D.st) (hp : ∀ t ∈ M.op, ts + 1 ≤ t.ts) (hc : ivB clo chi = true) :
    ((ts ≤ M.last ∨ ts < clo) → readLL M key ts clo chi = readLL D key ts alo ahi) ∧ (¬(ts ≤ M.last ∨ ts < clo) → readLL M key ts clo chi = (Ver.zero, false, 61)) := by
  have hpz := (past_zero (lead_chain hM)).2 hp
  refine ⟨fun hl => ?_, fun hl => ?_⟩
  · rw [read_of h, read_of ⟨hM, hc, h.k, h.t, hpz, hl⟩, hst]
  · rw [readLL_def, hM, hc, h.k, h.t, if_neg (by simp), if_pos]
    simp
    omega
/-- behind a stamp nothing up to ts is open -/
theorem stamp_past {D : LD} {t : Tx} {key ts alo ahi lo hi : Int} (h : ReadP D key ts alo ahi) (hs : (stampS D t lo hi).2.2 = 0) (hh : alo ≤ hi) :
    (stampS D t lo hi).1.st = D.st ∧ (∀ x ∈ (stampS D t lo hi).1.op, ts + 1 ≤ x.ts) ∧ ts ≤ (stampS D t lo hi).1.last := by
  have hl := rises_law hs
  have hd := (past_zero (lead_chain h.ok)).1 h.p
  have hlt : ts < (stampS D t lo hi).2.1.ts := by have := h.l; omega
  refine ⟨hl.2.2.2.2.2.2.2.1, fun x hx => ?_, by rw [hl.2.2.2.2.2.1]; omega⟩
  rw [hl.2.2.2.2.2.2.1] at hx
  rcases List.mem_append.1 hx with hx | hx
  · exact hd x hx
  · obtain rfl : x = (stampS D t lo hi).2.1 := by simpa using hx
    omega
theorem readL_any (L : LdV) (key ts lo hi : Int) (w : World) (hs : LdS L) (h : LdW w L) :
    Calls Try.prog 23 #[.agg #[.int .i64 L.last, .slice L.sa L.st.length L.sc, .slice L.oa L.op.length L.oc], .int .i64 key, .int .i64 ts, .agg #[.int .i64 lo, .int .i64 hi]] w (RetVBE w (readLL L.d key ts lo hi)) := by
  rw [← readLL_eq]
  exact read_any L key ts lo hi w hs h
end Go.Proofs.Ytficjpfhakggmaa
