/-
  Plain laws of layer 34: the versions of open transactions can all be put.
-/
import Derived.Test.YtficjpfhakggmaaPl33x
import Derived.Test.YtficjpfhakggmaaWv34
import Derived.Test.YtficjpfhakggmaaPa34
namespace Go.Proofs.Ytficjpfhakggmaa
def putsL (st vs : List Ver) : List Ver := vs.foldl putL st
structure Adds (st vs : List Ver) : Prop where
  wf : ∀ v ∈ vs, wfB v = true
  far : ∀ x ∈ st, ∀ v ∈ vs, x.key = v.key → x.ts < v.ts
  rise : vs.Pairwise fun a b => a.key = b.key → a.ts < b.ts
  len : st.length + vs.length ≤ 4000
theorem Adds.next {st r : List Ver} {v : Ver} (h : Adds st (v :: r)) : Adds (putL st v) r := by
  have hp := List.pairwise_cons.1 h.rise
  refine ⟨fun u hu => h.wf u (by simp [hu]), fun x hx u hu hk => ?_, hp.2, ?_⟩
  · rcases List.mem_cons.1 ((putL_perm st v).mem_iff.1 hx) with rfl | hx
    · exact hp.1 u hu hk
    · exact h.far x hx u (by simp [hu]) hk
  · have := h.len
    rw [putL_len]
    simp only [List.length_cons] at this
    omega
theorem Adds.first {st r : List Ver} {v : Ver} (hs : Sto st) (h : Adds st (v :: r)) : putS st v = (putL st v, 0) ∧ Sto (putL st v) :=
  put_eq hs (h.wf v (by simp)) (by have := h.len; simp only [List.length_cons] at this; omega) fun x hx hk => h.far x hx v (by simp) hk
theorem puts_step : ∀ {vs st : List Ver}, Sto st → Adds st vs → ∀ (j : Nat) (hj : j < vs.length), putS (putsL st (vs.take j)) vs[j] = (putsL st (vs.take (j + 1)), 0)
  | [], _, _, _, j, hj => absurd hj (Nat.not_lt_zero _)
  | v :: r, st, hs, h, 0, _ => (h.first hs).1
  | v :: r, st, hs, h, j + 1, hj => puts_step (vs := r) (st := putL st v) (h.first hs).2 h.next j (by simpa using hj)
theorem puts_sto : ∀ {vs st : List Ver}, Sto st → Adds st vs → Sto (putsL st vs) ∧ (putsL st vs).length = st.length + vs.length
  | [], _, hs, _ => ⟨hs, rfl⟩
  | v :: r, st, hs, h => by
    have ih := puts_sto (vs := r) (st := putL st v) (h.first hs).2 h.next
    refine ⟨ih.1, ?_⟩
    have := ih.2
    rw [putL_len] at this
    show (putsL (putL st v) r).length = _
    rw [this, List.length_cons]
    omega
theorem puts_app (st a b : List Ver) : putsL st (a ++ b) = putsL (putsL st a) b := List.foldl_append
theorem puts_perm : ∀ (st vs : List Ver), (putsL st vs).Perm (vs ++ st)
  | st, [] => .refl _
  | st, v :: r => by
    show (putsL (putL st v) r).Perm (v :: (r ++ st))
    exact (puts_perm (putL st v) r).trans (((putL_perm st v).append_left r).trans List.perm_middle)
theorem verT_ts {t : Tx} {v : Ver} (h : v ∈ verT t) : v.ts = t.ts := by
  obtain ⟨x, _, rfl⟩ := List.mem_map.1 h
  rfl
theorem chain_gt {m : Int} : ∀ {l : List Tx}, chainB m l = true → ∀ t ∈ l, m < t.ts ∧ formB t = true
  | [], _, t, ht => by cases ht
  | x :: l, h, t, ht => by
    unfold chainB at h
    rw [Bool.and_eq_true, Bool.and_eq_true, decide_eq_true_eq] at h
    rcases List.mem_cons.1 ht with rfl | ht
    · exact ⟨h.1.2, h.1.1⟩
    · have := chain_gt h.2 t ht
      exact ⟨by omega, this.2⟩
theorem writes_rise {l : List Wr} (h : writesB l = true) : ∀ (j i : Nat) (hj : j < l.length) (hi : i < j), (l[i]'(by omega)).key < l[j].key
  | 0, i, _, hi => absurd hi (Nat.not_lt_zero _)
  | j + 1, i, hj, hi => by
    have h1 := range_at hj h
    rw [wrAt_eq hj] at h1
    simp only [Bool.and_eq_true, Bool.or_eq_true, decide_eq_true_eq, beq_iff_eq] at h1
    have h2 : l[j].key < l[j + 1].key := by
      rcases h1.2 with h0 | h0
      · omega
      · exact h0
    rcases Nat.lt_or_ge i j with h3 | h3
    · have := writes_rise h j i (by omega) h3
      omega
    · obtain rfl : i = j := by omega
      exact h2
theorem form_vers {t : Tx} (h : formB t = true) (ht : 1 ≤ t.ts) : (∀ v ∈ verT t, wfB v = true) ∧ (verT t).Pairwise (fun a b => a.key < b.key) := by
  simp only [formB, Bool.and_eq_true, decide_eq_true_eq] at h
  refine ⟨fun v hv => ?_, ?_⟩
  · obtain ⟨x, hx, rfl⟩ := List.mem_map.1 hv
    obtain ⟨i, hi, rfl⟩ := List.getElem_of_mem hx
    have h1 := range_at hi h.1.1.1.1.2
    rw [wrAt_eq hi] at h1
    simp only [Bool.and_eq_true, decide_eq_true_eq] at h1
    simp only [wfB, Bool.and_eq_true, decide_eq_true_eq]
    exact ⟨⟨⟨h1.1.1.1, ht, h.1.1.2.2⟩, h1.1.1.2⟩, h1.1.2⟩
  · refine List.pairwise_iff_getElem.2 fun i j hi hj hij => ?_
    simp only [verT, List.length_map] at hi hj
    simpa [verT] using writes_rise h.1.1.1.1.2 j i hj hij
theorem adds_wlen : ∀ l : List Tx, (l.flatMap verT).length = wlen l
  | [] => rfl
  | t :: l => by rw [List.flatMap_cons, List.length_append, adds_wlen l, verT_len]; simp [wlen]
theorem chain_adds {m : Int} (hm : 0 ≤ m) : ∀ {l : List Tx}, chainB m l = true → (∀ v ∈ l.flatMap verT, wfB v = true ∧ m < v.ts) ∧ (l.flatMap verT).Pairwise (fun a b => a.key = b.key → a.ts < b.ts)
  | [], _ => ⟨fun v hv => (by cases hv), List.Pairwise.nil⟩
  | t :: l, h => by
    unfold chainB at h
    rw [Bool.and_eq_true, Bool.and_eq_true, decide_eq_true_eq] at h
    obtain ⟨⟨hf, hts⟩, hc⟩ := h
    have ih := chain_adds (m := t.ts) (by omega) hc
    have hv := form_vers hf (by omega)
    rw [List.flatMap_cons]
    refine ⟨fun v hv' => ?_, List.pairwise_append.2 ⟨hv.2.imp fun hab he => by omega, ih.2, fun a ha b hb _ => ?_⟩⟩
    · rcases List.mem_append.1 hv' with h1 | h1
      · exact ⟨hv.1 v h1, by rw [verT_ts h1]; exact hts⟩
      · exact ⟨(ih.1 v h1).1, by have := (ih.1 v h1).2; omega⟩
    · rw [verT_ts ha]
      exact (ih.1 b hb).2
theorem maxTs_ge : ∀ (l : List Ver) (b : Int), b ≤ l.foldl (fun m v => max m v.ts) b ∧ ∀ v ∈ l, v.ts ≤ l.foldl (fun m v => max m v.ts) b
  | [], b => ⟨Int.le_refl _, fun v hv => by cases hv⟩
  | x :: l, b => by
    have ih := maxTs_ge l (max b x.ts)
    rw [List.foldl_cons]
    refine ⟨by omega, fun v hv => ?_⟩
    rcases List.mem_cons.1 hv with rfl | hv
    · omega
    · exact ih.2 v hv
theorem lead_adds {last : Int} {st : List Ver} {op : List Tx} (h : leadB last st op = true) : Sto st ∧ Adds st (op.flatMap verT) := by
  simp only [leadB, Bool.and_eq_true, decide_eq_true_eq] at h
  have hm := maxTs_ge st 0
  have hc := chain_adds (m := maxTs st) hm.1 h.1.2
  exact ⟨(sto_iff st).1 h.1.1.1.1.1, fun v hv => (hc.1 v hv).1, fun x hx v hv _ => Int.lt_of_le_of_lt (hm.2 x hx) (hc.1 v hv).2, hc.2, by rw [adds_wlen]; exact h.1.1.2⟩
theorem Adds.left {st a b : List Ver} (h : Adds st (a ++ b)) : Adds st a :=
  ⟨fun v hv => h.wf v (by simp [hv]), fun x hx v hv => h.far x hx v (by simp [hv]), (List.pairwise_append.1 h.rise).1, by have := h.len; simp at this; omega⟩
/-- the store after some transactions and some versions of the next one -/
def stAt (st : List Ver) (op : List Tx) (i j : Nat) : List Ver := putsL (putsL st ((op.take i).flatMap verT)) ((verT (op.getD i Tx.zero)).take j)
theorem stAt_next {last : Int} {st : List Ver} {op : List Tx} (h : leadB last st op = true) {i j : Nat} (hi : i < op.length) (hj : j < (verT op[i]).length) :
    putS (stAt st op i j) (verT op[i])[j] = (stAt st op i (j + 1), 0) := by
  obtain ⟨hs, ha⟩ := lead_adds h
  have e : op = op.take (i + 1) ++ op.drop (i + 1) := (List.take_append_drop _ _).symm
  rw [e, List.flatMap_append, List.take_succ_eq_append_getElem hi, List.flatMap_append] at ha
  have h2 := ha.left
  simp only [List.flatMap_cons, List.flatMap_nil, List.append_nil] at h2
  have hj' : ((op.take i).flatMap verT).length + j < ((op.take i).flatMap verT ++ verT op[i]).length := by simp; omega
  have h3 := puts_step hs h2 _ hj'
  rw [Nat.add_assoc, List.take_length_add_append, List.take_length_add_append, puts_app, puts_app, List.getElem_append_right (by omega)] at h3
  simp only [Nat.add_sub_cancel_left] at h3
  unfold stAt
  rw [List.getD_eq_getElem?_getD, List.getElem?_eq_getElem hi]
  exact h3
theorem stAt_zero (st : List Ver) (op : List Tx) (i : Nat) : stAt st op i 0 = putsL st ((op.take i).flatMap verT) := rfl
theorem stAt_full {st : List Ver} {op : List Tx} {i : Nat} (hi : i < op.length) : stAt st op i (verT op[i]).length = stAt st op (i + 1) 0 := by
  rw [stAt_zero, List.take_succ_eq_append_getElem hi, List.flatMap_append, puts_app]
  unfold stAt
  rw [List.getD_eq_getElem?_getD, List.getElem?_eq_getElem hi]
  simp
theorem stAt_len {last : Int} {st : List Ver} {op : List Tx} (h : leadB last st op = true) {i j : Nat} (hi : i < op.length) : (stAt st op i j).length ≤ 4000 := by
  obtain ⟨hs, ha⟩ := lead_adds h
  have e : op = op.take (i + 1) ++ op.drop (i + 1) := (List.take_append_drop _ _).symm
  rw [e, List.flatMap_append, List.take_succ_eq_append_getElem hi, List.flatMap_append] at ha
  have h2 := ha.left
  simp only [List.flatMap_cons, List.flatMap_nil, List.append_nil] at h2
  have e2 : verT op[i] = (verT op[i]).take j ++ (verT op[i]).drop j := (List.take_append_drop _ _).symm
  rw [e2, ← List.append_assoc] at h2
  have h4 := puts_sto hs h2.left
  unfold stAt
  rw [List.getD_eq_getElem?_getD, List.getElem?_eq_getElem hi, ← puts_app]
  have := h4.1.len
  exact this
end Go.Proofs.Ytficjpfhakggmaa
