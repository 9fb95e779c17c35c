/-
  What a put does to a store (without Read).
-/
import Derived.Test.YtficjpfhakggmaaPl33w
namespace Go.Proofs.Ytficjpfhakggmaa
theorem put_parts {l : List Ver} {v : Ver} (h : Sto l) (hn : newestR l v.key < v.ts) : ∃ xs ys, l = xs ++ ys ∧ putL l v = xs ++ v :: ys ∧ (∀ x ∈ xs, ltV x v) ∧ ∀ y ∈ ys, ltV v y := by
  have hN := upN_spec h.up v.key v.ts
  have hge := (newestR_ge (l := l) (k := v.key) (b := 0)).2
  change ∀ x ∈ l, x.key = v.key → x.ts ≤ newestR l v.key at hge
  refine ⟨l.take (upN l v.key v.ts), l.drop (upN l v.key v.ts), (List.take_append_drop _ _).symm, rfl, fun x hx => ?_, fun y hy => ?_⟩
  · obtain ⟨j, hj, rfl⟩ := List.getElem_of_mem hx
    rw [List.getElem_take]
    simp only [List.length_take] at hj
    have h1 := hN.lo j (by omega) (by omega)
    have h2 := hge l[j] (List.getElem_mem _)
    rw [ordI_le] at h1
    unfold ltV
    omega
  · obtain ⟨j, hj, rfl⟩ := List.getElem_of_mem hy
    rw [List.getElem_drop]
    simp only [List.length_drop] at hj
    have h1 := hN.hi (upN l v.key v.ts + j) (by omega) (by omega)
    rw [ordI_gt] at h1
    unfold ltV
    omega
theorem putL_len (l : List Ver) (v : Ver) : (putL l v).length = l.length + 1 := by
  unfold putL
  rw [List.length_append, List.length_cons, ← Nat.add_assoc, ← List.length_append, List.take_append_drop]
theorem sto_put {l : List Ver} {v : Ver} (h : Sto l) (hw : wfB v = true) (hn : newestR l v.key < v.ts) (hl : l.length < 4000) : Sto (putL l v) := by
  have hlen := putL_len l v
  obtain ⟨xs, ys, rfl, e, hx, hy⟩ := put_parts h hn
  rw [e] at hlen ⊢
  have hup := List.pairwise_append.1 h.up
  refine ⟨fun u hu => ?_, ?_, by omega⟩
  · rcases List.mem_append.1 hu with hu | hu
    · exact h.wf u (List.mem_append.2 (.inl hu))
    · rcases List.mem_cons.1 hu with rfl | hu
      · exact hw
      · exact h.wf u (List.mem_append.2 (.inr hu))
  · refine List.pairwise_append.2 ⟨hup.1, List.pairwise_cons.2 ⟨hy, hup.2.1⟩, fun a ha b hb => ?_⟩
    rcases List.mem_cons.1 hb with rfl | hb
    · exact hx a ha
    · exact hup.2.2 a ha b hb
theorem atFold_hit {l : List Ver} {v : Ver} {k t : Int} (h : Sto l) (hn : newestR l v.key < v.ts) (hk : v.key = k) (ht : v.ts ≤ t) : atFold (putL l v) k t = v := by
  obtain ⟨xs, ys, rfl, e, hx, hy⟩ := put_parts h hn
  have hge := (newestR_ge (l := xs ++ ys) (k := v.key) (b := 0)).2
  change ∀ x ∈ xs ++ ys, x.key = v.key → x.ts ≤ newestR (xs ++ ys) v.key at hge
  rw [e]
  unfold atFold
  rw [List.foldl_append, List.foldl_cons, if_pos ⟨hk, ht⟩]
  refine foldl_keep (fun u : Ver => u.key = k ∧ u.ts ≤ t) (fun _ u => u) v ys fun u hu hm => ?_
  have h1 := hy u hu
  have h2 := hge u (List.mem_append.2 (.inr hu))
  unfold ltV at h1
  omega
theorem atFold_miss {l : List Ver} {v : Ver} {k t : Int} (h : Sto l) (hn : newestR l v.key < v.ts) (hm : ¬(v.key = k ∧ v.ts ≤ t)) : atFold (putL l v) k t = atFold l k t := by
  obtain ⟨xs, ys, rfl, e, hx, hy⟩ := put_parts h hn
  rw [e]
  unfold atFold
  rw [List.foldl_append, List.foldl_cons, if_neg hm, ← List.foldl_append]
/-- what a put that succeeds says -/
theorem put_ok {l m : List Ver} {v : Ver} (h : Sto l) (hp : (m, (0 : Int)) = putS l v) : wfB v = true ∧ newestR l v.key < v.ts ∧ l.length < 4000 ∧ m = putL l v ∧ Sto m := by
  have hv := (sto_iff l).2 h
  unfold putS at hp
  rw [hv, newest_eq h] at hp
  cases hw : wfB v
  · simp [hw] at hp
  · by_cases hn : v.ts ≤ newestR l v.key
    · simp [hw, hn] at hp
    · by_cases hl : l.length = 4000
      · simp [hw, hn, hl] at hp
      · simp [hw, hn, hl] at hp
        have h4 := h.len
        subst hp
        exact ⟨rfl, by omega, by omega, rfl, sto_put h hw (by omega) (by omega)⟩
theorem put_bad {l m : List Ver} {v : Ver} {e : Int} (hp : (m, e) = putS l v) (he : e ≠ 0) : m = [] := by
  unfold putS at hp
  split at hp
  · exact (Prod.mk.inj hp).1
  · split at hp
    · exact (Prod.mk.inj hp).1
    · split at hp
      · exact (Prod.mk.inj hp).1
      · exact absurd (Prod.mk.inj hp).2 he
/-- At, of a store -/
theorem atS_sto {l : List Ver} (h : Sto l) (k t : Int) : atS l k t = if keyB k && stampB t then ((atR0 l k t).1, (atR0 l k t).2, 0) else (Ver.zero, false, 1) := by
  rw [atS_eq]
  unfold atR
  rw [(sto_iff l).2 h]
  cases keyB k <;> cases stampB t <;> rfl
theorem atS_put_err {l m : List Ver} (h : Sto l) (h' : Sto m) (k t : Int) : (atS m k t).2.2 = (atS l k t).2.2 := by
  rw [atS_sto h, atS_sto h']
  split <;> rfl
theorem atS_put_hit {l : List Ver} {v : Ver} {k t : Int} (h : Sto l) (hw : wfB v = true) (hn : newestR l v.key < v.ts) (hl : l.length < 4000) (hk : v.key = k) (ht : v.ts ≤ t) (h0 : (atS l k t).2.2 = 0) :
    atS (putL l v) k t = if v.gone = true then (Ver.zero, false, 0) else (v, true, 0) := by
  rw [atS_sto (sto_put h hw hn hl)]
  rw [atS_sto h] at h0
  split
  · unfold atR0
    rw [atFold_hit h hn hk ht]
    have h1 : v.key ≠ 0 := by
      simp only [wfB, Bool.and_eq_true, decide_eq_true_eq] at hw
      omega
    cases hg : v.gone
    · rw [if_neg (by simp [h1])]; simp
    · rw [if_pos (by simp)]; simp
  · next hc => rw [if_neg hc] at h0; simp at h0
theorem atS_put_miss {l : List Ver} {v : Ver} {k t : Int} (h : Sto l) (hw : wfB v = true) (hn : newestR l v.key < v.ts) (hl : l.length < 4000) (hm : ¬(v.key = k ∧ v.ts ≤ t)) :
    atS (putL l v) k t = atS l k t := by
  rw [atS_sto (sto_put h hw hn hl), atS_sto h]
  unfold atR0
  rw [atFold_miss h hn hm]
theorem newest_in {l : List Ver} {k : Int} : newestR l k = 0 ∨ ∃ v ∈ l, v.key = k ∧ v.ts = newestR l k := newestR_in (l := l) (k := k) (b := 0)
theorem putL_perm (l : List Ver) (v : Ver) : (putL l v).Perm (v :: l) := by
  unfold putL
  refine List.perm_middle.trans (.cons _ ?_)
  rw [List.take_append_drop]
theorem put_eq {l : List Ver} {v : Ver} (h : Sto l) (hw : wfB v = true) (hl : l.length < 4000) (hn : ∀ x ∈ l, x.key = v.key → x.ts < v.ts) : putS l v = (putL l v, 0) ∧ Sto (putL l v) := by
  have h1 : newestR l v.key < v.ts := by
    rcases newest_in (l := l) (k := v.key) with e | ⟨x, hx, hk, ht⟩
    · simp only [wfB, Bool.and_eq_true, decide_eq_true_eq] at hw
      omega
    · have := hn x hx hk; omega
  refine ⟨?_, sto_put h hw h1 hl⟩
  unfold putS
  rw [(sto_iff l).2 h, hw, newest_eq h, if_neg (by simp), if_neg (by omega), if_neg (by omega)]
end Go.Proofs.Ytficjpfhakggmaa
