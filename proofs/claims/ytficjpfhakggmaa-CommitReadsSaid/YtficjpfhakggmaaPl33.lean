/-
  Plain laws on stores of versions: what is up to a key and a timestamp, what comes last, what is put.
-/
import Derived.Test.YtficjpfhakggmaaVs
namespace Go.Proofs.Ytficjpfhakggmaa
def cmpI (a b : Int) : Int := if a < b then -1 else if b < a then 1 else 0
/-- the first of some integers that is not 0, or 0 -/
def orL : List Int → Int
  | [] => 0
  | x :: l => if x = 0 then orL l else x
def ordI (k t k' t' : Int) : Int := orL [cmpI k k', cmpI t t']
def ordV (a b : Ver) : Int := ordI a.key a.ts b.key b.ts
theorem ordI_eq (k t k' t' : Int) : ordI k t k' t' = if k < k' then -1 else if k' < k then 1 else if t < t' then -1 else if t' < t then 1 else 0 := by
  unfold ordI orL cmpI
  by_cases h1 : k < k'
  · simp [h1]
  · by_cases h2 : k' < k
    · simp [h1, h2]
    · by_cases h3 : t < t'
      · simp [h1, h2, h3, orL]
      · by_cases h4 : t' < t <;> simp [h1, h2, h3, h4, orL]
theorem ordI_lt {k t k' t' : Int} : ordI k t k' t' < 0 ↔ k < k' ∨ k = k' ∧ t < t' := by
  rw [ordI_eq]; constructor
  · intro h; (repeat' split at h) <;> omega
  · intro h; (repeat' split) <;> omega
theorem ordI_le {k t k' t' : Int} : ordI k t k' t' ≤ 0 ↔ k < k' ∨ k = k' ∧ t ≤ t' := by
  rw [ordI_eq]; constructor
  · intro h; (repeat' split at h) <;> omega
  · intro h; (repeat' split) <;> omega
theorem ordI_gt {k t k' t' : Int} : 0 < ordI k t k' t' ↔ k' < k ∨ k = k' ∧ t' < t := by
  rw [ordI_eq]; constructor
  · intro h; (repeat' split at h) <;> omega
  · intro h; (repeat' split) <;> omega
theorem ordI_ge {k t k' t' : Int} : 0 ≤ ordI k t k' t' ↔ k' < k ∨ k = k' ∧ t' ≤ t := by
  rw [ordI_eq]; constructor
  · intro h; (repeat' split at h) <;> omega
  · intro h; (repeat' split) <;> omega
/-- what Valid asks of the version with an index -/
def okAt (l : List Ver) (k : Nat) : Bool := wfB (l.getD k Ver.zero) && (k == 0 || decide (ordV (l.getD (k - 1) Ver.zero) (l.getD k Ver.zero) < 0))
theorem okAt_eq {l : List Ver} {k : Nat} (hk : k < l.length) : okAt l k = (wfB l[k] && (k == 0 || decide (ordV (l[k - 1]'(by omega)) l[k] < 0))) := by
  unfold okAt
  rw [List.getD_eq_getElem?_getD, List.getD_eq_getElem?_getD, List.getElem?_eq_getElem hk, List.getElem?_eq_getElem (show k - 1 < l.length by omega)]
  rfl
def validB (l : List Ver) : Bool := (List.range l.length).all (okAt l) && decide (l.length ≤ 4000)
theorem validB_no {l : List Ver} {k : Nat} (hk : k < l.length) (h : okAt l k = false) : validB l = false := by
  unfold validB
  rw [Bool.and_eq_false_iff]
  refine .inl ?_
  rw [List.all_eq_false]
  exact ⟨k, List.mem_range.2 hk, by simp [h]⟩
theorem validB_all {l : List Ver} (h : ∀ j, j < l.length → okAt l j = true) : validB l = decide (l.length ≤ 4000) := by
  unfold validB
  rw [List.all_eq_true.2 (fun j hj => h j (List.mem_range.1 hj)), Bool.true_and]
/-- before, by key and timestamp -/
def ltV (a b : Ver) : Prop := a.key < b.key ∨ a.key = b.key ∧ a.ts < b.ts
/-- a well-formed store -/
structure Sto (l : List Ver) : Prop where
  wf : ∀ v ∈ l, wfB v = true
  up : l.Pairwise ltV
  len : l.length ≤ 4000
theorem ltV_trans {a b c : Ver} (h : ltV a b) (h' : ltV b c) : ltV a c := by unfold ltV at *; omega
theorem pairwise_of_next {l : List Ver} (h : ∀ k (hk : k + 1 < l.length), ltV (l[k]'(by omega)) l[k + 1]) : l.Pairwise ltV := by
  induction l with
  | nil => exact .nil
  | cons x l ih =>
    refine .cons ?_ (ih fun k hk => by have := h (k + 1) (by simp only [List.length_cons]; omega); simpa only [List.getElem_cons_succ] using this)
    intro y hy
    obtain ⟨j, hj, rfl⟩ := List.getElem_of_mem hy
    induction j with
    | zero => simpa using h 0 (by simpa using hj)
    | succ j ihj =>
      have h1 := h (j + 1) (by simpa using hj)
      simp only [List.getElem_cons_succ] at h1
      exact ltV_trans (ihj (by omega) (List.getElem_mem _)) h1
theorem sto_iff (l : List Ver) : validB l = true ↔ Sto l := by
  constructor
  · intro h
    unfold validB at h
    rw [Bool.and_eq_true, List.all_eq_true, decide_eq_true_eq] at h
    refine ⟨fun v hv => ?_, pairwise_of_next fun k hk => ?_, h.2⟩
    · obtain ⟨k, hk, rfl⟩ := List.getElem_of_mem hv
      have := h.1 k (List.mem_range.2 hk)
      rw [okAt_eq hk, Bool.and_eq_true] at this
      exact this.1
    · have := h.1 (k + 1) (List.mem_range.2 hk)
      rw [okAt_eq hk, Bool.and_eq_true] at this
      have h2 := this.2
      simp only [Nat.add_sub_cancel, Bool.or_eq_true, decide_eq_true_eq, beq_iff_eq] at h2
      rcases h2 with h2 | h2
      · omega
      · exact ordI_lt.1 h2
  · intro h
    rw [validB_all (fun j hj => ?_), decide_eq_true_eq]
    · exact h.len
    · rw [okAt_eq hj, h.wf _ (List.getElem_mem _), Bool.true_and]
      cases j with
      | zero => rfl
      | succ j =>
        have := List.pairwise_iff_getElem.1 h.up j (j + 1) (by omega) hj (by omega)
        simp only [Nat.add_sub_cancel, Bool.or_eq_true, decide_eq_true_eq]
        exact .inr (ordI_lt.2 this)
/-- what versions.upTo returns -/
structure UpTo (l : List Ver) (k t : Int) (N : Nat) : Prop where
  le : N ≤ l.length
  lo : ∀ j (hj : j < l.length), j < N → ordI l[j].key l[j].ts k t ≤ 0
  lt : ∀ j (hj : j < l.length), j + 1 < N → ordI l[j].key l[j].ts k t < 0
  hi : ∀ j (hj : j < l.length), N ≤ j → 0 < ordI l[j].key l[j].ts k t
def upN (l : List Ver) (k t : Int) : Nat := (l.takeWhile (fun v => decide (ordI v.key v.ts k t ≤ 0))).length
theorem takeWhile_at {α : Type} (p : α → Bool) : ∀ (l : List α) (j : Nat) (hj : j < l.length), j < (l.takeWhile p).length → p l[j] = true
  | [], j, hj, _ => absurd hj (Nat.not_lt_zero _)
  | x :: l, j, hj, h => by
    cases hx : p x
    · simp [hx] at h
    · cases j with
      | zero => exact hx
      | succ j =>
        rw [List.takeWhile_cons, hx] at h
        exact takeWhile_at p l j (by simpa using hj) (by simpa using h)
theorem takeWhile_stop {α : Type} (p : α → Bool) : ∀ (l : List α) (h : (l.takeWhile p).length < l.length), p (l[(l.takeWhile p).length]'h) = false
  | [], h => absurd h (Nat.not_lt_zero _)
  | x :: l, h => by
    cases hx : p x
    · simp [hx]
    · have e : (x :: l).takeWhile p = x :: l.takeWhile p := by rw [List.takeWhile_cons, hx]; rfl
      have := takeWhile_stop p l (by rw [e] at h; simpa using h)
      simpa [e] using this
theorem upN_spec {l : List Ver} (h : l.Pairwise ltV) (k t : Int) : UpTo l k t (upN l k t) := by
  have hle : upN l k t ≤ l.length := (List.takeWhile_sublist _).length_le
  have hlo : ∀ j (hj : j < l.length), j < upN l k t → ordI l[j].key l[j].ts k t ≤ 0 := fun j hj hjN => of_decide_eq_true (takeWhile_at (fun v : Ver => decide (ordI v.key v.ts k t ≤ 0)) l j hj hjN)
  have hst : ∀ hlt : upN l k t < l.length, 0 < ordI l[upN l k t].key l[upN l k t].ts k t := fun hlt => by
    have := of_decide_eq_false (takeWhile_stop (fun v : Ver => decide (ordI v.key v.ts k t ≤ 0)) l hlt)
    exact Int.not_le.1 this
  have hup := List.pairwise_iff_getElem.1 h
  refine ⟨hle, hlo, fun j hj hjN => ?_, fun j hj hjN => ?_⟩
  · have h1 := hlo (j + 1) (by omega) (by omega)
    have h2 := hup j (j + 1) hj (by omega) (by omega)
    rw [ordI_le] at h1
    rw [ordI_lt]
    unfold ltV at h2
    omega
  · rcases Nat.eq_or_lt_of_le hjN with rfl | hlt2
    · exact hst hj
    · have h2 := hup (upN l k t) j (by omega) hj hlt2
      have h3 := hst (by omega)
      rw [ordI_gt] at h3 ⊢
      unfold ltV at h2
      omega
/-- what versions.last returns, where N versions come up to the key and the timestamp -/
def lastN (l : List Ver) (k : Int) (N : Nat) : Ver := if N ≠ 0 ∧ (l.getD (N - 1) Ver.zero).key = k then l.getD (N - 1) Ver.zero else Ver.zero
def lastV (l : List Ver) (k t : Int) : Ver := lastN l k (upN l k t)
def putL (l : List Ver) (v : Ver) : List Ver := l.take (upN l v.key v.ts) ++ v :: l.drop (upN l v.key v.ts)
/-- versions.Put: the store, and the error -/
def putS (l : List Ver) (v : Ver) : List Ver × Int :=
  if !validB l || !wfB v then ([], 1) else if v.ts ≤ (lastV l v.key 3000000000000000).ts then ([], 30) else if l.length = 4000 then ([], 2) else (putL l v, 0)
end Go.Proofs.Ytficjpfhakggmaa
