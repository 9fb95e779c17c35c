/-
  Plain laws of layer 33: a store is what its versions lead to, put one by one.
-/
import Derived.Test.YtejpfcomgamhjaaPl33u
namespace Go.Proofs.Ytejpfcomgamhjaa
theorem newest_in {l : List Ver} {k : Int} : newestR l k = 0 ∨ ∃ v ∈ l, v.key = k ∧ v.ts = newestR l k := newestR_in (l := l) (k := k) (b := 0)
theorem putL_perm (l : List Ver) (v : Ver) : (putL l v).Perm (v :: l) := by
  unfold putL
  refine List.perm_middle.trans (.cons _ ?_)
  rw [List.take_append_drop]
theorem put_eq {l : List Ver} {v : Ver} (h : Sto l) (hw : wfB v = true) (hl : l.length < 4000) (hn : ∀ x ∈ l, x.key = v.key → x.ts < v.ts) : putS l v = (putL l v, 0) ∧ Sto (putL l v) := by
  have h1 : newestR l v.key < v.ts := by
    rcases newest_in (l := l) (k := v.key) with e | ⟨x, hx, hk, ht⟩
    · simp only [wfB, Bool.and_eq_true, decide_eq_true_eq] at hw
      omega
    · have := hn x hx hk; omega
  refine ⟨?_, sto_put h hw h1 hl⟩
  unfold putS
  rw [(sto_iff l).2 h, hw, newest_eq h, if_neg (by simp), if_neg (by omega), if_neg (by omega)]
theorem ltV_irrefl (a : Ver) : ¬ltV a a := by unfold ltV; omega
/-- two stores with the same versions are the same -/
theorem sto_ext {l l' : List Ver} (h : Sto l) (h' : Sto l') (hp : l.Perm l') : l = l' :=
  sorted_ext ltV_irrefl (fun _ _ _ => ltV_trans) h.up h'.up fun _ => hp.mem_iff
theorem sto_take {l : List Ver} (h : Sto l) (k : Nat) : Sto (l.take k) :=
  ⟨fun v hv => h.wf v (List.mem_of_mem_take hv), h.up.sublist (List.take_sublist k l), Nat.le_trans (by simp; omega) h.len⟩
/-- a version of a store put behind those before it -/
theorem put_next {l : List Ver} (h : Sto l) {k : Nat} (hk : k < l.length) : putS (l.take k) l[k] = (l.take (k + 1), 0) := by
  have hlen := h.len
  have hlt : ∀ x ∈ l.take k, ltV x l[k] := fun x hx => by
    obtain ⟨j, hj, rfl⟩ := List.getElem_of_mem hx
    simp only [List.length_take] at hj
    rw [List.getElem_take]
    exact List.pairwise_iff_getElem.1 h.up j k (by omega) hk (by omega)
  obtain ⟨h1, h2⟩ := put_eq (sto_take h k) (h.wf _ (List.getElem_mem hk)) (by simp; omega) (fun x hx hkey => by have := hlt x hx; unfold ltV at this; omega)
  rw [h1, sto_ext h2 (sto_take h (k + 1))]
  refine (putL_perm _ _).trans ?_
  rw [List.take_succ_eq_append_getElem hk]
  exact (List.perm_append_singleton _ _).symm
/-- where a store is put by rising timestamps: what is put, what is left -/
structure Part (l b left : List Ver) : Prop where
  sto : Sto b
  perm : (b ++ left).Perm l
  up : ∀ x ∈ b, ∀ y ∈ left, x.ts ≤ y.ts
theorem Part.start {l : List Ver} : Part l [] l := ⟨⟨by simp, .nil, by simp⟩, .refl _, by simp⟩
theorem Part.done {l b : List Ver} (hs : Sto l) (h : Part l b []) : b = l := sto_ext h.sto hs (by simpa using h.perm)
theorem Part.len {l b left : List Ver} (h : Part l b left) : b.length + left.length = l.length := by rw [← h.perm.length_eq, List.length_append]
theorem Part.next {l b left : List Ver} (hs : Sto l) (h : Part l b left) {at_ : Nat} (ha : at_ < left.length) (hmin : ∀ j (hj : j < left.length), left[at_].ts ≤ left[j].ts) :
    putS b left[at_] = (putL b left[at_], 0) ∧ Part l (putL b left[at_]) (left.take at_ ++ left.drop (at_ + 1)) := by
  have hlen := h.len
  have hl4 := hs.len
  have hmem : left[at_] ∈ l := h.perm.mem_iff.1 (List.mem_append.2 (.inr (List.getElem_mem ha)))
  have hnd : (b ++ left).Pairwise (fun a c => ¬(a.key = c.key ∧ a.ts = c.ts)) := by
    have h1 : l.Pairwise (fun a c => ¬(a.key = c.key ∧ a.ts = c.ts)) := hs.up.imp fun h => by unfold ltV at h; omega
    exact (h.perm.pairwise_iff (fun {a c} h => by rintro ⟨e1, e2⟩; exact h ⟨e1.symm, e2.symm⟩)).2 h1
  have hdis := (List.pairwise_append.1 hnd).2.2
  obtain ⟨h1, h2⟩ := put_eq h.sto (hs.wf _ hmem) (by omega) (fun x hx hkey => by
    have h3 := h.up x hx _ (List.getElem_mem ha)
    have h4 := hdis x hx _ (List.getElem_mem ha)
    omega)
  have hsub : ∀ y ∈ left.take at_ ++ left.drop (at_ + 1), y ∈ left := fun y hy => by
    rcases List.mem_append.1 hy with hy | hy
    · exact List.mem_of_mem_take hy
    · exact List.mem_of_mem_drop hy
  refine ⟨h1, h2, ?_, fun x hx y hy => ?_⟩
  · refine List.Perm.trans ?_ h.perm
    refine ((putL_perm _ _).append_right _).trans ?_
    refine List.Perm.trans (l₂ := b ++ (left[at_] :: (left.take at_ ++ left.drop (at_ + 1)))) ?_ ?_
    · exact (List.perm_middle (l₁ := b) (l₂ := left.take at_ ++ left.drop (at_ + 1)) (a := left[at_])).symm
    · refine List.Perm.append_left b ?_
      refine (List.perm_middle (l₁ := left.take at_) (l₂ := left.drop (at_ + 1)) (a := left[at_])).symm.trans ?_
      rw [← List.drop_eq_getElem_cons ha, List.take_append_drop]
  · have hy' := hsub y hy
    rcases List.mem_cons.1 ((putL_perm _ _).mem_iff.1 hx) with rfl | hx
    · obtain ⟨j, hj, rfl⟩ := List.getElem_of_mem hy'
      exact hmin j hj
    · exact h.up x hx y hy'
end Go.Proofs.Ytejpfcomgamhjaa
