/-
  Plain laws of stores (At, Newest, Put), without Read.
-/
import Derived.Test.YtficjpfhakggmaaPut
import Derived.Test.YtficjpfhakggmaaRef33d
namespace Go.Proofs.Ytficjpfhakggmaa
theorem getDV {l : List Ver} {i : Nat} (h : i < l.length) : l.getD i Ver.zero = l[i] := by simp [h]
theorem foldl_keep {α β : Type} (p : α → Prop) [DecidablePred p] (f : β → α → β) (b : β) : ∀ l : List α, (∀ v ∈ l, ¬p v) → l.foldl (fun a v => if p v then f a v else a) b = b
  | [], _ => rfl
  | x :: l, h => by
    rw [List.foldl_cons, if_neg (h x (by simp))]
    exact foldl_keep p f b l (fun v hv => h v (by simp [hv]))
theorem atFold_none {l : List Ver} {k t : Int} (h : ∀ v ∈ l, ¬(v.key = k ∧ v.ts ≤ t)) : atFold l k t = Ver.zero := foldl_keep (fun v : Ver => v.key = k ∧ v.ts ≤ t) (fun _ v => v) Ver.zero l h
theorem atFold_last {l : List Ver} {k t : Int} {j : Nat} (hj : j < l.length) (hm : l[j].key = k ∧ l[j].ts ≤ t) (h : ∀ i (hi : i < l.length), j < i → ¬(l[i].key = k ∧ l[i].ts ≤ t)) : atFold l k t = l[j] := by
  have e : l = l.take j ++ l[j] :: l.drop (j + 1) := by rw [← List.drop_eq_getElem_cons hj, List.take_append_drop]
  unfold atFold
  conv => lhs; rw [e]
  rw [List.foldl_append, List.foldl_cons, if_pos hm]
  refine foldl_keep (fun v : Ver => v.key = k ∧ v.ts ≤ t) (fun _ v => v) l[j] _ fun v hv => ?_
  obtain ⟨i, hi, rfl⟩ := List.getElem_of_mem hv
  rw [List.getElem_drop]
  exact h _ (by simp at hi; omega) (by omega)
/-- what lastV finds -/
theorem lastV_spec {l : List Ver} (h : l.Pairwise ltV) (k t : Int) :
    (lastV l k t = Ver.zero ∧ ∀ v ∈ l, ¬(v.key = k ∧ v.ts ≤ t)) ∨
    ∃ j, ∃ hj : j < l.length, lastV l k t = l[j] ∧ (l[j].key = k ∧ l[j].ts ≤ t) ∧ ∀ i (hi : i < l.length), j < i → ¬(l[i].key = k ∧ l[i].ts ≤ t) := by
  have hN := upN_spec h k t
  obtain ⟨N, hNe⟩ : ∃ N, N = upN l k t := ⟨_, rfl⟩
  unfold lastV lastN
  rw [← hNe] at hN ⊢
  have hup := List.pairwise_iff_getElem.1 h
  have hle := hN.le
  by_cases hc : N ≠ 0 ∧ (l.getD (N - 1) Ver.zero).key = k
  · have hj : N - 1 < l.length := by omega
    rw [if_pos hc, getDV hj]
    rw [getDV hj] at hc
    refine .inr ⟨N - 1, hj, rfl, ⟨hc.2, ?_⟩, fun i hi hji hm => ?_⟩
    · have := hN.lo (N - 1) hj (by omega)
      rw [ordI_le] at this
      omega
    · have := hN.hi i hi (by omega)
      rw [ordI_gt] at this
      omega
  · rw [if_neg hc]
    refine .inl ⟨rfl, fun v hv hm => ?_⟩
    obtain ⟨i, hi, rfl⟩ := List.getElem_of_mem hv
    have hiN : i < N := by
      rcases Nat.lt_or_ge i N with h1 | h1
      · exact h1
      · have := hN.hi i hi h1
        rw [ordI_gt] at this
        omega
    have hj : N - 1 < l.length := by omega
    rw [getDV hj] at hc
    have h1 := hN.lo (N - 1) hj (by omega)
    rw [ordI_le] at h1
    rcases Nat.eq_or_lt_of_le (show i ≤ N - 1 by omega) with rfl | h2
    · exact hc ⟨by omega, hm.1⟩
    · have h3 := hup i (N - 1) hi hj h2
      unfold ltV at h3
      exact hc ⟨by omega, by omega⟩
theorem lastV_fold {l : List Ver} (h : l.Pairwise ltV) (k t : Int) : lastV l k t = atFold l k t := by
  rcases lastV_spec h k t with ⟨h1, h2⟩ | ⟨j, hj, h1, h2, h3⟩
  · rw [h1, atFold_none h2]
  · rw [h1, atFold_last hj h2 h3]
theorem newestR_ge {l : List Ver} {k : Int} : ∀ {b : Int}, b ≤ l.foldl (fun a v => if v.key = k then max a v.ts else a) b ∧ ∀ v ∈ l, v.key = k → v.ts ≤ l.foldl (fun a v => if v.key = k then max a v.ts else a) b := by
  induction l with
  | nil => intro b; simp
  | cons x l ih =>
    intro b
    rw [List.foldl_cons]
    by_cases hx : x.key = k
    · rw [if_pos hx]
      have := ih (b := max b x.ts)
      refine ⟨by omega, fun v hv hk => ?_⟩
      rcases List.mem_cons.1 hv with rfl | hv
      · omega
      · exact this.2 v hv hk
    · rw [if_neg hx]
      have := ih (b := b)
      refine ⟨this.1, fun v hv hk => ?_⟩
      rcases List.mem_cons.1 hv with rfl | hv
      · exact absurd hk hx
      · exact this.2 v hv hk
theorem newestR_in {l : List Ver} {k : Int} : ∀ {b : Int}, l.foldl (fun a v => if v.key = k then max a v.ts else a) b = b ∨ ∃ v ∈ l, v.key = k ∧ v.ts = l.foldl (fun a v => if v.key = k then max a v.ts else a) b := by
  induction l with
  | nil => intro b; simp
  | cons x l ih =>
    intro b
    rw [List.foldl_cons]
    by_cases hx : x.key = k
    · rw [if_pos hx]
      rcases ih (b := max b x.ts) with h | ⟨v, hv, hk, ht⟩
      · by_cases hm : b ≤ x.ts
        · exact .inr ⟨x, by simp, hx, by rw [h]; omega⟩
        · exact .inl (by rw [h]; omega)
      · exact .inr ⟨v, by simp [hv], hk, ht⟩
    · rw [if_neg hx]
      rcases ih (b := b) with h | ⟨v, hv, hk, ht⟩
      · exact .inl h
      · exact .inr ⟨v, by simp [hv], hk, ht⟩
theorem Sto.ts {l : List Ver} (h : Sto l) {v : Ver} (hv : v ∈ l) : 1 ≤ v.key ∧ v.key ≤ 1000 ∧ 1 ≤ v.ts ∧ v.ts ≤ 3000000000000000 := by
  have := h.wf v hv
  simp only [wfB, Bool.and_eq_true, decide_eq_true_eq] at this
  omega
theorem newest_eq {l : List Ver} (h : Sto l) (k : Int) : (lastV l k 3000000000000000).ts = newestR l k := by
  have hge := newestR_ge (l := l) (k := k) (b := 0)
  have hin := newestR_in (l := l) (k := k) (b := 0)
  have hup := List.pairwise_iff_getElem.1 h.up
  change 0 ≤ newestR l k ∧ ∀ v ∈ l, v.key = k → v.ts ≤ newestR l k at hge
  change newestR l k = 0 ∨ ∃ v ∈ l, v.key = k ∧ v.ts = newestR l k at hin
  rcases lastV_spec h.up k 3000000000000000 with ⟨h1, h2⟩ | ⟨j, hj, h1, h2, h3⟩
  · rw [h1]
    rcases hin with h0 | ⟨v, hv, hk, ht⟩
    · rw [h0]; rfl
    · exact absurd ⟨hk, (h.ts hv).2.2.2⟩ (h2 v hv)
  · rw [h1]
    have hj1 := h.ts (List.getElem_mem hj)
    have hjn := hge.2 _ (List.getElem_mem hj) h2.1
    rcases hin with h0 | ⟨v, hv, hk, ht⟩
    · omega
    · obtain ⟨i, hi, rfl⟩ := List.getElem_of_mem hv
      rcases Nat.lt_trichotomy i j with hij | rfl | hij
      · have := hup i j hi hj hij
        unfold ltV at this
        omega
      · exact ht
      · exact absurd ⟨hk, (h.ts hv).2.2.2⟩ (h3 i hi hij)
theorem newestS_eq (l : List Ver) (k : Int) : newestS l k = newestRS l k := by
  unfold newestS newestRS
  cases hv : validB l
  · rfl
  · rw [newest_eq ((sto_iff l).1 hv)]
theorem lastV_key0 {l : List Ver} (h : Sto l) (k t : Int) : lastV l k t = Ver.zero ↔ (lastV l k t).key = 0 := by
  constructor
  · intro e; rw [e]; rfl
  · intro e
    rcases lastV_spec h.up k t with ⟨h1, h2⟩ | ⟨j, hj, h1, h2, h3⟩
    · exact h1
    · rw [h1] at e
      have := h.ts (List.getElem_mem hj)
      omega
theorem atS_eq (l : List Ver) (k t : Int) : atS l k t = atR l k t := by
  unfold atS atR
  cases hv : validB l
  · rfl
  · have h := (sto_iff l).1 hv
    unfold atR0
    rw [← lastV_fold h.up]
    have hz := lastV_key0 h k t
    by_cases hc : (lastV l k t).key = 0 ∨ (lastV l k t).gone = true
    · rw [if_pos hc, if_pos (show lastV l k t = Ver.zero ∨ _ from hc.imp hz.2 id)]
    · rw [if_neg hc, if_neg (show ¬(lastV l k t = Ver.zero ∨ _) from fun h => hc (h.imp hz.1 id))]
theorem takeWhile_congr {α : Type} {p q : α → Bool} : ∀ {l : List α}, (∀ v ∈ l, p v = q v) → l.takeWhile p = l.takeWhile q ∧ l.dropWhile p = l.dropWhile q
  | [], _ => ⟨rfl, rfl⟩
  | x :: l, h => by
    have ih := takeWhile_congr (l := l) (p := p) (q := q) (fun v hv => h v (by simp [hv]))
    have hx := h x (by simp)
    simp [List.takeWhile_cons, List.dropWhile_cons, hx, ih.1, ih.2]
theorem drop_while {α : Type} (p : α → Bool) : ∀ l : List α, l.drop (l.takeWhile p).length = l.dropWhile p ∧ l.take (l.takeWhile p).length = l.takeWhile p
  | [] => ⟨rfl, rfl⟩
  | x :: l => by
    have := drop_while p l
    cases hx : p x <;> simp [hx, this.1, this.2]
theorem putL_eq {l : List Ver} {v : Ver} (hn : newestR l v.key < v.ts) : putL l v = rPutL l v := by
  have hge := newestR_ge (l := l) (k := v.key) (b := 0)
  change 0 ≤ newestR l v.key ∧ ∀ x ∈ l, x.key = v.key → x.ts ≤ newestR l v.key at hge
  have hc := takeWhile_congr (l := l) (p := fun x : Ver => decide (ordI x.key x.ts v.key v.ts ≤ 0)) (q := fun x : Ver => ltB x.key x.ts v.key v.ts) (fun x hx => by
    rw [Bool.eq_iff_iff, decide_eq_true_eq, ordI_le]
    simp only [ltB, Bool.or_eq_true, Bool.and_eq_true, decide_eq_true_eq, beq_iff_eq]
    have := hge.2 x hx
    omega)
  unfold putL rPutL upN
  rw [(drop_while _ l).1, (drop_while _ l).2, hc.1, hc.2]
theorem putS_eq (l : List Ver) (v : Ver) : putS l v = rPutS l v := by
  unfold putS rPutS
  cases hv : validB l
  · rfl
  · rw [newest_eq ((sto_iff l).1 hv)]
    by_cases hn : v.ts ≤ newestR l v.key
    · simp [hn]
    · rw [putL_eq (by omega)]
end Go.Proofs.Ytficjpfhakggmaa
