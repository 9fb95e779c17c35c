/-
  Plain laws on hash trees: paths lead to the roots; their lengths; what no path leads to.
-/
import Derived.Test.YtijnjgjpmgmifaaDoorTr2
namespace Go.Proofs.YtijnjgjpmgmifaaDoor
section
variable {lf : Int → Int} {pr : Int → Int → Int}
theorem inclT_left {l : List Int} {i : Nat} (h : 2 ≤ l.length) (hi : i < hf l.length) : inclT lf pr l i = inclT lf pr (l.take (hf l.length)) i ++ [rootT lf pr (l.drop (hf l.length))] := by rw [inclT, dif_pos h, if_pos hi]
theorem inclT_right {l : List Int} {i : Nat} (h : 2 ≤ l.length) (hi : ¬i < hf l.length) : inclT lf pr l i = inclT lf pr (l.drop (hf l.length)) (i - hf l.length) ++ [rootT lf pr (l.take (hf l.length))] := by rw [inclT, dif_pos h, if_neg hi]
theorem inclT_one {l : List Int} {i : Nat} (h : ¬2 ≤ l.length) : inclT lf pr l i = [] := by rw [inclT, dif_neg h]
theorem extT_left {l : List Int} {m : Nat} {mark : Bool} (h : 2 ≤ l.length ∧ m ≠ l.length) (hm : m ≤ hf l.length) : extT lf pr l m mark = extT lf pr (l.take (hf l.length)) m mark ++ [rootT lf pr (l.drop (hf l.length))] := by rw [extT, dif_pos h, if_pos hm]
theorem extT_right {l : List Int} {m : Nat} {mark : Bool} (h : 2 ≤ l.length ∧ m ≠ l.length) (hm : ¬m ≤ hf l.length) : extT lf pr l m mark = extT lf pr (l.drop (hf l.length)) (m - hf l.length) false ++ [rootT lf pr (l.take (hf l.length))] := by rw [extT, dif_pos h, if_neg hm]
theorem extT_end {l : List Int} {m : Nat} {mark : Bool} (h : ¬(2 ≤ l.length ∧ m ≠ l.length)) : extT lf pr l m mark = if mark = true then [] else [rootT lf pr l] := by rw [extT, dif_neg h]
/-- the inclusion path leads to the root, with whatever value at the index -/
theorem lead_incl : ∀ (n : Nat) (l : List Int), l.length = n → ∀ (i : Nat) (x : Int), i < n → leadJ lf pr x i n (inclT lf pr l i) = (rootT lf pr (l.set i x), true) := by
  intro n
  induction n using Nat.strongRecOn with
  | ind n ih =>
    intro l hl i x hi
    subst hl
    by_cases hn : 2 ≤ l.length
    · obtain ⟨h1, h2, h3⟩ := hf_spec hn
      rw [rootT_split (l := l.set i x) (by simpa using hn), List.length_set]
      by_cases hk : i < hf l.length
      · have h4 := ih (hf l.length) h2 (l.take (hf l.length)) (by simp; omega) i x hk
        rw [inclT_left hn hk, leadJ_left hn hk, h4, List.take_set, List.drop_set_of_lt hk]
      · have h4 := ih (l.length - hf l.length) (by omega) (l.drop (hf l.length)) (by simp) (i - hf l.length) x (by omega)
        rw [inclT_right hn hk, leadJ_right hn hk, h4, List.drop_set, if_neg hk, List.take_set_of_le (by omega)]
    · have h1 : l.length = 1 := by omega
      obtain rfl : i = 0 := by omega
      obtain ⟨y, rfl⟩ : ∃ y, l = [y] := by
        match l, h1 with
        | [y], _ => exact ⟨y, rfl⟩
      rw [inclT_one hn, leadJ_one hn, rootT_one (by simp)]
      rfl
theorem set_self {l : List Int} {i : Nat} (h : i < l.length) : l.set i l[i] = l := List.set_getElem_self h
theorem hf_between {m n : Nat} (h1 : hf n < m) (h2 : m ≤ n) : hf m = hf n := by
  have hn : 2 ≤ n := by have := Nat.two_pow_pos (Nat.log2 (n - 1)); unfold hf at h1; omega
  have hm : 2 ≤ m := by have := Nat.two_pow_pos (Nat.log2 (n - 1)); unfold hf at h1; omega
  obtain ⟨a1, a2, a3⟩ := hf_spec hn
  obtain ⟨b1, b2, b3⟩ := hf_spec hm
  have c1 : hf n ≤ hf m := hf_max (e := Nat.log2 (n - 1)) h1
  have c2 : hf m ≤ hf n := hf_max (e := Nat.log2 (m - 1)) (n := n) (by unfold hf at b2; omega)
  omega
/-- the extension path leads from the root of the beginning to both roots -/
theorem grow_ext : ∀ (n : Nat) (l : List Int), l.length = n → ∀ (m : Nat) (mark : Bool) (a : Int), 1 ≤ m → m ≤ n → (mark = true → a = rootT lf pr (l.take m)) →
    growJ pr a m n mark (extT lf pr l m mark) = (rootT lf pr (l.take m), rootT lf pr l, true) := by
  intro n
  induction n using Nat.strongRecOn with
  | ind n ih =>
    intro l hl m mark a hm1 hm ha
    subst hl
    by_cases hn : 2 ≤ l.length ∧ m ≠ l.length
    · obtain ⟨h1, h2, h3⟩ := hf_spec hn.1
      rw [rootT_split (l := l) hn.1]
      by_cases hk : m ≤ hf l.length
      · have h4 := ih (hf l.length) h2 (l.take (hf l.length)) (by simp; omega) m mark a hm1 hk (by rw [List.take_take, Nat.min_eq_left hk]; exact ha)
        rw [List.take_take, Nat.min_eq_left hk] at h4
        rw [extT_left hn hk, growJ_left hn hk, h4]
      · have h4 := ih (l.length - hf l.length) (by omega) (l.drop (hf l.length)) (by simp) (m - hf l.length) false a (by omega) (by omega) (fun h => by cases h)
        have h5 : rootT lf pr (l.take m) = pr (rootT lf pr (l.take (hf l.length))) (rootT lf pr ((l.drop (hf l.length)).take (m - hf l.length))) := by
          have hlen : (l.take m).length = m := by simp; omega
          rw [rootT_split (l := l.take m) (by omega), hlen, hf_between (n := l.length) (by omega) hm, List.take_take, Nat.min_eq_left (by omega), List.drop_take]
        rw [extT_right hn hk, growJ_right hn hk, h4, h5]
    · rw [extT_end hn, growJ_end hn]
      have h5 : l.take m = l := List.take_of_length_le (by omega)
      rw [h5] at ha ⊢
      cases mark
      · simp
      · rw [ha rfl]; simp
/-- how long an inclusion path is -/
def plen (i n : Nat) : Nat := if _h : 2 ≤ n then if i < hf n then plen i (hf n) + 1 else plen (i - hf n) (n - hf n) + 1 else 0
termination_by n
decreasing_by
  all_goals
    have := hf_spec _h
    omega
def glen (m n : Nat) (mark : Bool) : Nat := if _h : 2 ≤ n ∧ m ≠ n then if m ≤ hf n then glen m (hf n) mark + 1 else glen (m - hf n) (n - hf n) false + 1 else if mark = true then 0 else 1
termination_by n
decreasing_by
  all_goals
    have := hf_spec _h.1
    omega
theorem incl_len : ∀ (n : Nat) (l : List Int), l.length = n → ∀ i, (inclT lf pr l i).length = plen i n := by
  intro n
  induction n using Nat.strongRecOn with
  | ind n ih =>
    intro l hl i
    subst hl
    rw [plen]
    by_cases hn : 2 ≤ l.length
    · obtain ⟨h1, h2, h3⟩ := hf_spec hn
      rw [dif_pos hn]
      by_cases hk : i < hf l.length
      · rw [if_pos hk, inclT_left hn hk, List.length_append, ih (hf l.length) h2 _ (by simp; omega)]; rfl
      · rw [if_neg hk, inclT_right hn hk, List.length_append, ih (l.length - hf l.length) (by omega) _ (by simp)]; rfl
    · rw [dif_neg hn, inclT_one hn]; rfl
theorem ext_len : ∀ (n : Nat) (l : List Int), l.length = n → ∀ m mark, (extT lf pr l m mark).length = glen m n mark := by
  intro n
  induction n using Nat.strongRecOn with
  | ind n ih =>
    intro l hl m mark
    subst hl
    rw [glen]
    by_cases hn : 2 ≤ l.length ∧ m ≠ l.length
    · obtain ⟨h1, h2, h3⟩ := hf_spec hn.1
      rw [dif_pos hn]
      by_cases hk : m ≤ hf l.length
      · rw [if_pos hk, extT_left hn hk, List.length_append, ih (hf l.length) h2 _ (by simp; omega)]; rfl
      · rw [if_neg hk, extT_right hn hk, List.length_append, ih (l.length - hf l.length) (by omega) _ (by simp)]; rfl
    · rw [dif_neg hn, extT_end hn]
      cases mark <;> rfl
/-- only a path of this length leads anywhere -/
theorem lead_len : ∀ (n : Nat) (d : Int) (i : Nat) (path : List Int), (leadJ lf pr d i n path).2 = decide (path.length = plen i n) := by
  intro n
  induction n using Nat.strongRecOn with
  | ind n ih =>
    intro d i path
    rw [plen]
    by_cases hn : 2 ≤ n
    · obtain ⟨h1, h2, h3⟩ := hf_spec hn
      rw [dif_pos hn]
      rcases snoc_cases path with rfl | ⟨ps, p, rfl⟩
      · rw [leadJ_nil hn]
        by_cases hk : i < hf n
        · rw [if_pos hk]; simp
        · rw [if_neg hk]; simp
      · by_cases hk : i < hf n
        · rw [leadJ_left hn hk, if_pos hk, ih (hf n) h2, List.length_append, Bool.eq_iff_iff]; simp
        · rw [leadJ_right hn hk, if_neg hk, ih (n - hf n) (by omega), List.length_append, Bool.eq_iff_iff]; simp
    · rw [dif_neg hn, leadJ_one hn]
      cases path <;> simp
theorem grow_len : ∀ (n : Nat) (a : Int) (m : Nat) (mark : Bool) (path : List Int), (growJ pr a m n mark path).2.2 = decide (path.length = glen m n mark) := by
  intro n
  induction n using Nat.strongRecOn with
  | ind n ih =>
    intro a m mark path
    rw [glen]
    by_cases hn : 2 ≤ n ∧ m ≠ n
    · obtain ⟨h1, h2, h3⟩ := hf_spec hn.1
      rw [dif_pos hn]
      rcases snoc_cases path with rfl | ⟨ps, p, rfl⟩
      · rw [growJ_nil hn]
        by_cases hk : m ≤ hf n
        · rw [if_pos hk]; simp
        · rw [if_neg hk]; simp
      · by_cases hk : m ≤ hf n
        · rw [growJ_left hn hk, if_pos hk, ih (hf n) h2, List.length_append, Bool.eq_iff_iff]; simp
        · rw [growJ_right hn hk, if_neg hk, ih (n - hf n) (by omega), List.length_append, Bool.eq_iff_iff]; simp
    · rw [dif_neg hn, growJ_end hn]
      cases mark
      · by_cases h1 : path.length = 1 <;> simp [h1]
      · cases path <;> simp
theorem plen_le : ∀ (e n i : Nat), n ≤ 2 ^ e → plen i n ≤ e
  | 0, n, i, h => by rw [Nat.pow_zero] at h; rw [plen, dif_neg (by omega)]; exact Nat.le_refl _
  | e + 1, n, i, h => by
    rw [plen]
    by_cases hn : 2 ≤ n
    · obtain ⟨h1, h2, h3⟩ := hf_spec hn
      have h4 : hf n ≤ 2 ^ e := by
        have h5 : hf n < 2 ^ (e + 1) := by omega
        unfold hf at h5 ⊢
        exact Nat.pow_le_pow_right (by omega) (by have := pow_le_iff h5; omega)
      rw [dif_pos hn]
      split
      · have := plen_le e (hf n) i h4; omega
      · have := plen_le e (n - hf n) (i - hf n) (by omega); omega
    · rw [dif_neg hn]; omega
theorem glen_le : ∀ (e n m : Nat) (mark : Bool), n ≤ 2 ^ e → glen m n mark ≤ e + 1
  | 0, n, m, mark, h => by rw [Nat.pow_zero] at h; rw [glen, dif_neg (by omega)]; split <;> omega
  | e + 1, n, m, mark, h => by
    rw [glen]
    by_cases hn : 2 ≤ n ∧ m ≠ n
    · obtain ⟨h1, h2, h3⟩ := hf_spec hn.1
      have h4 : hf n ≤ 2 ^ e := by
        have h5 : hf n < 2 ^ (e + 1) := by omega
        unfold hf at h5 ⊢
        exact Nat.pow_le_pow_right (by omega) (by have := pow_le_iff h5; omega)
      rw [dif_pos hn]
      split
      · have := glen_le e (hf n) m mark h4; omega
      · have := glen_le e (n - hf n) (m - hf n) false (by omega); omega
    · rw [dif_neg hn]; split <;> omega
end
end Go.Proofs.YtijnjgjpmgmifaaDoor
