/-
  Plain laws on hash trees: roots, paths, and to what they lead.
-/
import Derived.Test.YtijnjgjpmgmifaaDoorTr1
namespace Go.Proofs.YtijnjgjpmgmifaaDoor
section
variable (lf : Int → Int) (pr : Int → Int → Int)
def rootT (l : List Int) : Int := if _h : 2 ≤ l.length then pr (rootT (l.take (hf l.length))) (rootT (l.drop (hf l.length))) else lf (l.headD 0)
termination_by l.length
decreasing_by
  all_goals
    have := hf_spec _h
    simp
    omega
/-- the inclusion path of an index -/
def inclT (l : List Int) (i : Nat) : List Int :=
  if _h : 2 ≤ l.length then if i < hf l.length then inclT (l.take (hf l.length)) i ++ [rootT lf pr (l.drop (hf l.length))] else inclT (l.drop (hf l.length)) (i - hf l.length) ++ [rootT lf pr (l.take (hf l.length))] else []
termination_by l.length
decreasing_by
  all_goals
    have := hf_spec _h
    simp
    omega
/-- the extension path of a beginning -/
def extT (l : List Int) (m : Nat) (mark : Bool) : List Int :=
  if _h : 2 ≤ l.length ∧ m ≠ l.length then if m ≤ hf l.length then extT (l.take (hf l.length)) m mark ++ [rootT lf pr (l.drop (hf l.length))] else extT (l.drop (hf l.length)) (m - hf l.length) false ++ [rootT lf pr (l.take (hf l.length))]
  else if mark = true then [] else [rootT lf pr l]
termination_by l.length
decreasing_by
  all_goals
    have := hf_spec _h.1
    simp
    omega
/-- to which root an inclusion path leads, and whether it does -/
def leadJ (d : Int) (i n : Nat) (path : List Int) : Int × Bool :=
  if _h : 2 ≤ n then
    if path = [] then (0, false)
    else if i < hf n then (pr (leadJ d i (hf n) path.dropLast).1 (path.getLastD 0), (leadJ d i (hf n) path.dropLast).2)
    else (pr (path.getLastD 0) (leadJ d (i - hf n) (n - hf n) path.dropLast).1, (leadJ d (i - hf n) (n - hf n) path.dropLast).2)
  else (lf d, path.isEmpty)
termination_by n
decreasing_by
  all_goals
    have := hf_spec _h
    omega
/-- to which two roots an extension path leads, and whether it does -/
def growJ (a : Int) (m n : Nat) (mark : Bool) (path : List Int) : Int × Int × Bool :=
  if _h : 2 ≤ n ∧ m ≠ n then
    if path = [] then (0, 0, false)
    else if m ≤ hf n then ((growJ a m (hf n) mark path.dropLast).1, pr (growJ a m (hf n) mark path.dropLast).2.1 (path.getLastD 0), (growJ a m (hf n) mark path.dropLast).2.2)
    else (pr (path.getLastD 0) (growJ a (m - hf n) (n - hf n) false path.dropLast).1, pr (path.getLastD 0) (growJ a (m - hf n) (n - hf n) false path.dropLast).2.1, (growJ a (m - hf n) (n - hf n) false path.dropLast).2.2)
  else if mark = true then (a, a, path.isEmpty) else if path.length = 1 then (path.headD 0, path.headD 0, true) else (0, 0, false)
termination_by n
decreasing_by
  all_goals
    have := hf_spec _h.1
    omega
variable {lf} {pr}
theorem rootT_split {l : List Int} (h : 2 ≤ l.length) : rootT lf pr l = pr (rootT lf pr (l.take (hf l.length))) (rootT lf pr (l.drop (hf l.length))) := by rw [rootT, dif_pos h]
theorem rootT_one {l : List Int} (h : ¬2 ≤ l.length) : rootT lf pr l = lf (l.headD 0) := by rw [rootT, dif_neg h]
theorem leadJ_one {d : Int} {i n : Nat} {path : List Int} (h : ¬2 ≤ n) : leadJ lf pr d i n path = (lf d, path.isEmpty) := by rw [leadJ, dif_neg h]
theorem leadJ_nil {d : Int} {i n : Nat} (h : 2 ≤ n) : leadJ lf pr d i n [] = (0, false) := by rw [leadJ, dif_pos h, if_pos rfl]
theorem leadJ_left {d : Int} {i n : Nat} {ps : List Int} {p : Int} (h : 2 ≤ n) (hi : i < hf n) : leadJ lf pr d i n (ps ++ [p]) = (pr (leadJ lf pr d i (hf n) ps).1 p, (leadJ lf pr d i (hf n) ps).2) := by
  rw [leadJ, dif_pos h, if_neg (by simp), if_pos hi]; simp
theorem leadJ_right {d : Int} {i n : Nat} {ps : List Int} {p : Int} (h : 2 ≤ n) (hi : ¬i < hf n) : leadJ lf pr d i n (ps ++ [p]) = (pr p (leadJ lf pr d (i - hf n) (n - hf n) ps).1, (leadJ lf pr d (i - hf n) (n - hf n) ps).2) := by
  rw [leadJ, dif_pos h, if_neg (by simp), if_neg hi]; simp
theorem growJ_end {a : Int} {m n : Nat} {mark : Bool} {path : List Int} (h : ¬(2 ≤ n ∧ m ≠ n)) : growJ pr a m n mark path = if mark = true then (a, a, path.isEmpty) else if path.length = 1 then (path.headD 0, path.headD 0, true) else (0, 0, false) := by rw [growJ, dif_neg h]
theorem growJ_nil {a : Int} {m n : Nat} {mark : Bool} (h : 2 ≤ n ∧ m ≠ n) : growJ pr a m n mark [] = (0, 0, false) := by rw [growJ, dif_pos h, if_pos rfl]
theorem growJ_left {a : Int} {m n : Nat} {mark : Bool} {ps : List Int} {p : Int} (h : 2 ≤ n ∧ m ≠ n) (hm : m ≤ hf n) :
    growJ pr a m n mark (ps ++ [p]) = ((growJ pr a m (hf n) mark ps).1, pr (growJ pr a m (hf n) mark ps).2.1 p, (growJ pr a m (hf n) mark ps).2.2) := by
  rw [growJ, dif_pos h, if_neg (by simp), if_pos hm]; simp
theorem growJ_right {a : Int} {m n : Nat} {mark : Bool} {ps : List Int} {p : Int} (h : 2 ≤ n ∧ m ≠ n) (hm : ¬m ≤ hf n) :
    growJ pr a m n mark (ps ++ [p]) = (pr p (growJ pr a (m - hf n) (n - hf n) false ps).1, pr p (growJ pr a (m - hf n) (n - hf n) false ps).2.1, (growJ pr a (m - hf n) (n - hf n) false ps).2.2) := by
  rw [growJ, dif_pos h, if_neg (by simp), if_neg hm]; simp
theorem snoc_cases (path : List Int) : path = [] ∨ ∃ ps p, path = ps ++ [p] := by
  rcases List.eq_nil_or_concat path with h | ⟨ps, p, h⟩
  · exact .inl h
  · exact .inr ⟨ps, p, by rw [h]; simp⟩
variable (lf) (pr) in
/-- what a path leads to, if it does -/
def leadO (d : Int) (i n : Nat) (path : List Int) : Option Int := if (leadJ lf pr d i n path).2 = true then some (leadJ lf pr d i n path).1 else none
/-- the recursion from the top is the walk from the bottom -/
theorem lead_walk : ∀ (n : Nat) (d : Int) (i : Nat) (path : List Int), i < n → leadO lf pr d i n path = wlk (fun s p => pr p s) (fun s p => pr s p) i (n - 1) (lf d) path := by
  intro n
  induction n using Nat.strongRecOn with
  | ind n ih =>
    intro d i path hi
    by_cases hn : 2 ≤ n
    · obtain ⟨h1, h2, h3⟩ := hf_spec hn
      rcases snoc_cases path with rfl | ⟨ps, p, rfl⟩
      · unfold leadO
        rw [leadJ_nil hn, wlk_nil (by omega)]; rfl
      · obtain ⟨e, he⟩ : ∃ e, hf n = 2 ^ e := ⟨_, rfl⟩
        by_cases hk : i < hf n
        · have h4 := ih (hf n) h2 d i ps hk
          have h5 := wlk_left (fr := fun s p => pr p s) (fl := fun s p => pr s p) p ps e i (n - 1) (lf d) (by omega) (by omega) (by rw [Nat.pow_succ]; omega)
          rw [h5, ← he, ← h4]
          unfold leadO
          rw [leadJ_left hn hk]
          dsimp only
          cases (leadJ lf pr d i (hf n) ps).2 <;> rfl
        · have h4 := ih (n - hf n) (by omega) d (i - hf n) ps (by omega)
          have h5 := wlk_right (fr := fun s p => pr p s) (fl := fun s p => pr s p) p ps e (i - hf n) (n - hf n - 1) (lf d) (by omega) (by omega)
          rw [show 2 ^ e + (i - hf n) = i by omega, show 2 ^ e + (n - hf n - 1) = n - 1 by omega] at h5
          rw [h5, ← h4]
          unfold leadO
          rw [leadJ_right hn hk]
          dsimp only
          cases (leadJ lf pr d (i - hf n) (n - hf n) ps).2 <;> rfl
    · obtain rfl : n = 1 := by omega
      obtain rfl : i = 0 := by omega
      unfold leadO
      rw [leadJ_one hn]
      cases path with
      | nil => rw [wlk_nil0]; rfl
      | cons p ps => rw [wlk_end]; rfl
variable (pr) in
def growO (a : Int) (m n : Nat) (mark : Bool) (path : List Int) : Option (Int × Int) := if (growJ pr a m n mark path).2.2 = true then some ((growJ pr a m n mark path).1, (growJ pr a m n mark path).2.1) else none
theorem growO_left {a : Int} {m n : Nat} {mark : Bool} {ps : List Int} {p : Int} (h : 2 ≤ n ∧ m ≠ n) (hm : m ≤ hf n) :
    growO pr a m n mark (ps ++ [p]) = (growO pr a m (hf n) mark ps).map fun s => (s.1, pr s.2 p) := by
  unfold growO
  rw [growJ_left h hm]
  dsimp only
  cases (growJ pr a m (hf n) mark ps).2.2 <;> rfl
theorem growO_right {a : Int} {m n : Nat} {mark : Bool} {ps : List Int} {p : Int} (h : 2 ≤ n ∧ m ≠ n) (hm : ¬m ≤ hf n) :
    growO pr a m n mark (ps ++ [p]) = (growO pr a (m - hf n) (n - hf n) false ps).map fun s => (pr p s.1, pr p s.2) := by
  unfold growO
  rw [growJ_right h hm]
  dsimp only
  cases (growJ pr a (m - hf n) (n - hf n) false ps).2.2 <;> rfl
theorem growO_nil {a : Int} {m n : Nat} {mark : Bool} (h : 2 ≤ n ∧ m ≠ n) : growO pr a m n mark [] = none := by unfold growO; rw [growJ_nil h]; rfl
theorem growO_full {a : Int} {n : Nat} {path : List Int} : growO pr a n n false path = if path.length = 1 then some (path.headD 0, path.headD 0) else none := by
  unfold growO
  rw [growJ_end (by omega)]
  by_cases h : path.length = 1 <;> simp [h]
theorem growO_mark {a : Int} {n : Nat} {path : List Int} : growO pr a n n true path = if path = [] then some (a, a) else none := by
  unfold growO
  rw [growJ_end (by omega)]
  cases path <;> simp
theorem growO_single {a c : Int} {m n : Nat} (h : 1 ≤ m) (hm : m < n) : growO pr a m n false [c] = none := by
  have hn : 2 ≤ n ∧ m ≠ n := by omega
  obtain ⟨h1, h2, h3⟩ := hf_spec hn.1
  rw [show [c] = [] ++ [c] from rfl]
  by_cases hk : m ≤ hf n
  · rw [growO_left hn hk]
    by_cases he : m = hf n
    · rw [← he, growO_full]; rfl
    · rw [growO_nil (by omega)]; rfl
  · rw [growO_right hn hk, growO_nil (by omega)]; rfl
theorem grow_walk : ∀ (n : Nat) (a c : Int) (m : Nat) (ps : List Int), 1 ≤ m → m < n →
    growO pr a m n false (c :: ps) = wlk (fun s p => (pr p s.1, pr p s.2)) (fun s p => (s.1, pr s.2 p)) (stripT (m - 1) (n - 1)).1 (stripT (m - 1) (n - 1)).2 (c, c) ps := by
  intro n
  induction n using Nat.strongRecOn with
  | ind n ih =>
    intro a c m ps hm1 hm
    have hn : 2 ≤ n ∧ m ≠ n := by omega
    obtain ⟨h1, h2, h3⟩ := hf_spec hn.1
    obtain ⟨e, he⟩ : ∃ e, hf n = 2 ^ e := ⟨_, rfl⟩
    have hpow : 2 ^ (e + 1) = 2 * 2 ^ e := by rw [Nat.pow_succ]; omega
    by_cases hk : m ≤ hf n
    · by_cases hmk : m = hf n
      · have hs := strip_full e (n - 1) (by omega) (by omega)
        rw [show 2 ^ e - 1 = m - 1 by omega] at hs
        rw [hs]
        dsimp only
        rcases snoc_cases ps with rfl | ⟨qs, p, rfl⟩
        · rw [growO_single hm1 hm, wlk_nil (by omega)]
        · rw [← List.cons_append, growO_left hn hk, ← hmk, growO_full]
          cases qs with
          | nil =>
            rw [List.nil_append, wlk_01]
            rfl
          | cons q qs =>
            rw [List.cons_append, wlk_01_more (by simp)]
            rfl
      · obtain ⟨e', a', b', hs1, hs2, ha', hb1, hb2⟩ := strip_left e (m - 1) (n - 1) (by omega) (by omega) (by omega)
        rw [hs1]
        dsimp only
        rcases snoc_cases ps with rfl | ⟨qs, p, rfl⟩
        · have : 0 < 2 ^ e' := Nat.two_pow_pos _
          rw [growO_single hm1 hm, wlk_nil (by omega)]
        · have h4 := ih (hf n) h2 a c m qs hm1 (by omega)
          rw [he, hs2] at h4
          rw [← List.cons_append, growO_left hn hk, wlk_left p qs e' a' b' (c, c) ha' hb1 hb2, he, h4]
    · obtain ⟨e', hs, ha', hb'⟩ := strip_right e (m - hf n - 1) (n - hf n - 1) (by omega) (by omega)
      rw [show 2 ^ e + (m - hf n - 1) = m - 1 by omega, show 2 ^ e + (n - hf n - 1) = n - 1 by omega] at hs
      rw [hs]
      dsimp only
      rcases snoc_cases ps with rfl | ⟨qs, p, rfl⟩
      · have : 0 < 2 ^ e' := Nat.two_pow_pos _
        rw [growO_single hm1 hm, wlk_nil (by omega)]
      · have h4 := ih (n - hf n) (by omega) a c (m - hf n) qs (by omega) (by omega)
        rw [← List.cons_append, growO_right hn hk, wlk_right p qs e' _ _ (c, c) ha' hb', h4]
/-- a power of two -/
def isPow (m : Nat) : Prop := ∃ e, m = 2 ^ e
theorem grow_pow : ∀ (n : Nat) (a : Int) (m : Nat) (path : List Int), isPow m → m < n → growO pr a m n true path = growO pr a m n false (a :: path) := by
  intro n
  induction n using Nat.strongRecOn with
  | ind n ih =>
    rintro a m path ⟨e, rfl⟩ hm
    have hpos : 0 < 2 ^ e := Nat.two_pow_pos _
    have hn : 2 ≤ n ∧ 2 ^ e ≠ n := by omega
    obtain ⟨h1, h2, h3⟩ := hf_spec hn.1
    have hk := hf_max hm
    rcases snoc_cases path with rfl | ⟨ps, p, rfl⟩
    · rw [growO_nil hn, growO_single (by omega) hm]
    · rw [← List.cons_append, growO_left hn hk, growO_left hn hk]
      by_cases he : 2 ^ e = hf n
      · rw [← he, growO_mark, growO_full]
        cases ps <;> simp
      · rw [ih (hf n) h2 a (2 ^ e) ps ⟨e, rfl⟩ (by omega)]
theorem growJ_any : ∀ (n : Nat) (a a' : Int) (m : Nat) (path : List Int), growJ pr a m n false path = growJ pr a' m n false path := by
  intro n
  induction n using Nat.strongRecOn with
  | ind n ih =>
    intro a a' m path
    by_cases hn : 2 ≤ n ∧ m ≠ n
    · obtain ⟨h1, h2, h3⟩ := hf_spec hn.1
      rcases snoc_cases path with rfl | ⟨ps, p, rfl⟩
      · rw [growJ_nil hn, growJ_nil hn]
      · by_cases hk : m ≤ hf n
        · rw [growJ_left hn hk, growJ_left hn hk, ih (hf n) h2 a a']
        · rw [growJ_right hn hk, growJ_right hn hk, ih (n - hf n) (by omega) a a']
    · rw [growJ_end hn, growJ_end hn]; rfl
theorem grow_other : ∀ (n : Nat) (a a' : Int) (m : Nat) (path : List Int), 1 ≤ m → ¬isPow m → m < n → growJ pr a m n true path = growJ pr a' m n false path := by
  intro n
  induction n using Nat.strongRecOn with
  | ind n ih =>
    intro a a' m path hm1 hp hm
    have hn : 2 ≤ n ∧ m ≠ n := by omega
    obtain ⟨h1, h2, h3⟩ := hf_spec hn.1
    rcases snoc_cases path with rfl | ⟨ps, p, rfl⟩
    · rw [growJ_nil hn, growJ_nil hn]
    · by_cases hk : m ≤ hf n
      · have he : m ≠ hf n := fun e => hp ⟨_, e⟩
        rw [growJ_left hn hk, growJ_left hn hk, ih (hf n) h2 a a' m ps hm1 hp (by omega)]
      · rw [growJ_right hn hk, growJ_right hn hk, growJ_any (n - hf n) a a']
end
end Go.Proofs.YtijnjgjpmgmifaaDoor
