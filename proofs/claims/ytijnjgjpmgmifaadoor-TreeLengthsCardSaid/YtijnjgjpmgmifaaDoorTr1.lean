/-
  Plain laws on hash trees: the walk from the bottom to the top by two indexes is the recursion from the top.
-/
namespace Go.Proofs.YtijnjgjpmgmifaaDoor
/-- up one level, and further ones without a neighbour -/
def upT (a b : Nat) : Nat × Nat := if _h : a % 2 = 0 ∧ a ≠ 0 then upT (a / 2) (b / 2) else (a / 2, b / 2)
termination_by a
decreasing_by omega
def stripT (a b : Nat) : Nat × Nat := if _h : a % 2 = 1 then stripT (a / 2) (b / 2) else (a, b)
termination_by a
decreasing_by omega
def isR (a b : Nat) : Bool := decide (a % 2 = 1) || decide (a = b)
/-- the walk: the value that is followed, and the last one; what is merged on the right side and on the left side -/
def wlk {S : Type} (fr fl : S → Int → S) : Nat → Nat → S → List Int → Option S
  | _, b, s, [] => if b = 0 then some s else none
  | a, b, s, p :: ps => if b = 0 then none else if isR a b = true then wlk fr fl (upT a b).1 (upT a b).2 (fr s p) ps else wlk fr fl (a / 2) (b / 2) (fl s p) ps
theorem upT_odd {a b : Nat} (h : a % 2 = 1) : upT a b = (a / 2, b / 2) := by rw [upT, dif_neg (by omega)]
theorem upT_even {a b : Nat} (h : a % 2 = 0) (h0 : a ≠ 0) : upT a b = upT (a / 2) (b / 2) := by rw [upT, dif_pos ⟨h, h0⟩]
theorem two_pow_half (e : Nat) (x : Nat) : (2 ^ (e + 1) + x) / 2 = 2 ^ e + x / 2 := by rw [Nat.pow_succ]; omega
theorem two_pow_par (e : Nat) (x : Nat) : (2 ^ (e + 1) + x) % 2 = x % 2 := by rw [Nat.pow_succ]; omega
theorem upT_top : ∀ e, upT (2 ^ e) (2 ^ e) = (0, 0)
  | 0 => by rw [Nat.pow_zero, upT_odd rfl]
  | e + 1 => by
    have h1 := two_pow_half e 0
    have h2 := two_pow_par e 0
    have h3 : 0 < 2 ^ (e + 1) := Nat.two_pow_pos _
    simp only [Nat.add_zero, Nat.zero_div, Nat.zero_mod] at h1 h2
    rw [upT_even h2 (by omega), h1]
    exact upT_top e
theorem upT_lift : ∀ e a b, a ≤ b → b < 2 ^ e → 0 < b → (a % 2 = 1 ∨ a = b) →
    ∃ e', upT (2 ^ e + a) (2 ^ e + b) = (2 ^ e' + (upT a b).1, 2 ^ e' + (upT a b).2) ∧ (upT a b).1 ≤ (upT a b).2 ∧ (upT a b).2 < 2 ^ e'
  | 0, a, b, _, h2, h3, _ => by rw [Nat.pow_zero] at h2; omega
  | e + 1, a, b, h1, h2, h3, h4 => by
    have p1 := two_pow_half e a
    have p2 := two_pow_half e b
    have p3 := two_pow_par e a
    have p4 : 2 ^ (e + 1) = 2 * 2 ^ e := by rw [Nat.pow_succ]; omega
    have p5 : 0 < 2 ^ e := Nat.two_pow_pos _
    by_cases ho : a % 2 = 1
    · rw [upT_odd (by omega), upT_odd ho, p1, p2]
      exact ⟨e, rfl, Nat.div_le_div_right h1, by omega⟩
    · have hab : a = b := h4.resolve_left ho
      rw [upT_even (a := 2 ^ (e + 1) + a) (by omega) (by omega), upT_even (a := a) (by omega) (by omega), p1, p2]
      exact upT_lift e (a / 2) (b / 2) (by omega) (by omega) (by omega) (.inr (by omega))
theorem isR_lift {e a b : Nat} : isR (2 ^ (e + 1) + a) (2 ^ (e + 1) + b) = isR a b := by
  unfold isR
  rw [two_pow_par]
  congr 1
  rw [Bool.eq_iff_iff, decide_eq_true_eq, decide_eq_true_eq]
  omega
theorem isR_iff {a b : Nat} : isR a b = true ↔ a % 2 = 1 ∨ a = b := by unfold isR; simp
section
variable {S : Type} {fr fl : S → Int → S}
theorem wlk_nil {a b : Nat} {s : S} (h : b ≠ 0) : wlk fr fl a b s [] = none := by rw [wlk, if_neg h]
theorem wlk_nil0 {a : Nat} {s : S} : wlk fr fl a 0 s [] = some s := by rw [wlk, if_pos rfl]
theorem wlk_cons {a b : Nat} {s : S} {p : Int} {ps : List Int} : wlk fr fl a b s (p :: ps) = if b = 0 then none else if isR a b = true then wlk fr fl (upT a b).1 (upT a b).2 (fr s p) ps else wlk fr fl (a / 2) (b / 2) (fl s p) ps := by rw [wlk]
theorem wlk_end {a : Nat} {s : S} {p : Int} {ps : List Int} : wlk fr fl a 0 s (p :: ps) = none := by rw [wlk, if_pos rfl]
theorem wlk_end2 {a : Nat} {s : S} {ps : List Int} (h : ps ≠ []) : wlk fr fl a 0 s ps = none := by
  cases ps with
  | nil => exact absurd rfl h
  | cons p ps => exact wlk_end
theorem wlk_01 {s : S} {p : Int} : wlk fr fl 0 1 s [p] = some (fl s p) := by rw [wlk_cons, if_neg (by omega), if_neg (by simp [isR]), show 1 / 2 = 0 from rfl, wlk_nil0]
theorem wlk_01_more {s : S} {p : Int} {ps : List Int} (h : ps ≠ []) : wlk fr fl 0 1 s (p :: ps) = none := by rw [wlk_cons, if_neg (by omega), if_neg (by simp [isR]), show 1 / 2 = 0 from rfl, wlk_end2 h]
/-- a right part: behind its own walk one merge on the right side -/
theorem wlk_right (p : Int) : ∀ (ps : List Int) (e a b : Nat) (s : S), a ≤ b → b < 2 ^ e → wlk fr fl (2 ^ e + a) (2 ^ e + b) s (ps ++ [p]) = (wlk fr fl a b s ps).map (fun s => fr s p)
  | ps, 0, a, b, s, h1, h2 => by
    rw [Nat.pow_zero] at h2
    obtain rfl : b = 0 := by omega
    obtain rfl : a = 0 := by omega
    cases ps with
    | nil =>
      rw [List.nil_append, wlk_cons, if_neg (by simp), if_pos (isR_iff.2 (.inr rfl)), upT_top 0, wlk_nil0, wlk_nil0]; rfl
    | cons q qs =>
      rw [List.cons_append, wlk_cons, if_neg (by simp), if_pos (isR_iff.2 (.inr rfl)), upT_top 0, wlk_end, wlk_end2 (by simp)]; rfl
  | ps, e + 1, a, b, s, h1, h2 => by
    have p1 := two_pow_half e a
    have p2 := two_pow_half e b
    have p4 : 2 ^ (e + 1) = 2 * 2 ^ e := by rw [Nat.pow_succ]; omega
    have p5 : 0 < 2 ^ e := Nat.two_pow_pos _
    by_cases hb : b = 0
    · subst hb
      obtain rfl : a = 0 := by omega
      rw [Nat.add_zero]
      cases ps with
      | nil =>
        rw [List.nil_append, wlk_cons, if_neg (by omega), if_pos (isR_iff.2 (.inr rfl)), upT_top, wlk_nil0, wlk_nil0]; rfl
      | cons q qs =>
        rw [List.cons_append, wlk_cons, if_neg (by omega), if_pos (isR_iff.2 (.inr rfl)), upT_top, wlk_end, wlk_end2 (by simp)]; rfl
    · cases ps with
      | nil =>
        rw [List.nil_append, wlk_nil hb, wlk_cons, if_neg (by omega), isR_lift]
        by_cases hr : isR a b = true
        · rw [if_pos hr]
          obtain ⟨e', he, _, _⟩ := upT_lift (e + 1) a b h1 h2 (by omega) (isR_iff.1 hr)
          have : 0 < 2 ^ e' := Nat.two_pow_pos _
          rw [he, wlk_nil (by dsimp only; omega)]; rfl
        · rw [if_neg hr, p2, wlk_nil (by omega)]; rfl
      | cons q qs =>
        rw [List.cons_append, wlk_cons, if_neg (by omega), isR_lift, wlk_cons, if_neg hb]
        by_cases hr : isR a b = true
        · rw [if_pos hr, if_pos hr]
          obtain ⟨e', he, h3, h4⟩ := upT_lift (e + 1) a b h1 h2 (by omega) (isR_iff.1 hr)
          rw [he]
          exact wlk_right p qs e' _ _ _ h3 h4
        · rw [if_neg hr, if_neg hr, p1, p2]
          exact wlk_right p qs e _ _ _ (Nat.div_le_div_right h1) (by omega)
/-- a left part, of which each level is whole: behind its own walk one merge on the left side -/
theorem wlk_left (p : Int) : ∀ (ps : List Int) (e a b : Nat) (s : S), a < 2 ^ e → 2 ^ e ≤ b → b < 2 ^ (e + 1) → wlk fr fl a b s (ps ++ [p]) = (wlk fr fl a (2 ^ e - 1) s ps).map (fun s => fl s p)
  | ps, 0, a, b, s, h1, h2, h3 => by
    rw [Nat.pow_zero] at h1 h2
    rw [Nat.pow_succ, Nat.pow_zero] at h3
    obtain rfl : a = 0 := by omega
    obtain rfl : b = 1 := by omega
    cases ps with
    | nil =>
      rw [List.nil_append, wlk_cons, if_neg (by simp), if_neg (by simp [isR]), show 2 ^ 0 - 1 = 0 from rfl, show 1 / 2 = 0 from rfl, wlk_nil0, wlk_nil0]; rfl
    | cons q qs =>
      rw [List.cons_append, wlk_cons, if_neg (by simp), if_neg (by simp [isR])]
      rw [show 2 ^ 0 - 1 = 0 from rfl, wlk_end, wlk_end2 (by simp)]; rfl
  | ps, e + 1, a, b, s, h1, h2, h3 => by
    have p4 : 2 ^ (e + 1) = 2 * 2 ^ e := by rw [Nat.pow_succ]; omega
    have p6 : 2 ^ (e + 1 + 1) = 2 * (2 * 2 ^ e) := by rw [Nat.pow_succ, Nat.pow_succ]; omega
    have p5 : 0 < 2 ^ e := Nat.two_pow_pos _
    have p7 : (2 ^ (e + 1) - 1) / 2 = 2 ^ e - 1 := by omega
    cases ps with
    | nil =>
      rw [List.nil_append, wlk_nil (by omega), wlk_cons, if_neg (by omega)]
      by_cases ho : a % 2 = 1
      · rw [if_pos (isR_iff.2 (.inl ho)), upT_odd ho, wlk_nil (by dsimp only; omega)]; rfl
      · rw [if_neg (fun h => by rcases isR_iff.1 h with h | h; exact ho h; omega), wlk_nil (by omega)]; rfl
    | cons q qs =>
      have hb0 : b ≠ 0 := by omega
      have hb1 : 2 ^ (e + 1) - 1 ≠ 0 := by omega
      rw [List.cons_append, wlk_cons (b := b), wlk_cons (b := 2 ^ (e + 1) - 1), if_neg hb0, if_neg hb1]
      by_cases ho : a % 2 = 1
      · have hr1 : isR a b = true := isR_iff.2 (.inl ho)
        have hr2 : isR a (2 ^ (e + 1) - 1) = true := isR_iff.2 (.inl ho)
        rw [if_pos hr1, if_pos hr2, upT_odd ho, upT_odd ho]
        dsimp only
        rw [p7]
        exact wlk_left p qs e _ _ _ (by omega) (by omega) (by omega)
      · have hr1 : ¬isR a b = true := fun h => by rcases isR_iff.1 h with h | h; exact ho h; omega
        have hr2 : ¬isR a (2 ^ (e + 1) - 1) = true := fun h => by rcases isR_iff.1 h with h | h; exact ho h; omega
        rw [if_neg hr1, if_neg hr2, p7]
        exact wlk_left p qs e _ _ _ (by omega) (by omega) (by omega)
end
theorem stripT_odd {a b : Nat} (h : a % 2 = 1) : stripT a b = stripT (a / 2) (b / 2) := by rw [stripT, dif_pos h]
theorem stripT_even {a b : Nat} (h : a % 2 = 0) : stripT a b = (a, b) := by rw [stripT, dif_neg (by omega)]
theorem strip_right : ∀ e a b, a < b → b < 2 ^ e → ∃ e', stripT (2 ^ e + a) (2 ^ e + b) = (2 ^ e' + (stripT a b).1, 2 ^ e' + (stripT a b).2) ∧ (stripT a b).1 ≤ (stripT a b).2 ∧ (stripT a b).2 < 2 ^ e'
  | 0, a, b, h1, h2 => by rw [Nat.pow_zero] at h2; omega
  | e + 1, a, b, h1, h2 => by
    have p1 := two_pow_half e a
    have p2 := two_pow_half e b
    have p3 := two_pow_par e a
    have p4 : 2 ^ (e + 1) = 2 * 2 ^ e := by rw [Nat.pow_succ]; omega
    by_cases ho : a % 2 = 1
    · rw [stripT_odd (by omega), stripT_odd ho, p1, p2]
      exact strip_right e (a / 2) (b / 2) (by omega) (by omega)
    · rw [stripT_even (by omega), stripT_even (by omega)]
      exact ⟨e + 1, rfl, by dsimp only; omega, h2⟩
theorem strip_left : ∀ e a b, a + 1 < 2 ^ e → 2 ^ e ≤ b → b < 2 ^ (e + 1) →
    ∃ e' a' b', stripT a b = (a', b') ∧ stripT a (2 ^ e - 1) = (a', 2 ^ e' - 1) ∧ a' < 2 ^ e' ∧ 2 ^ e' ≤ b' ∧ b' < 2 ^ (e' + 1)
  | 0, a, b, h1, _, _ => by rw [Nat.pow_zero] at h1; omega
  | e + 1, a, b, h1, h2, h3 => by
    have p4 : 2 ^ (e + 1) = 2 * 2 ^ e := by rw [Nat.pow_succ]; omega
    have p6 : 2 ^ (e + 1 + 1) = 2 * (2 * 2 ^ e) := by rw [Nat.pow_succ, Nat.pow_succ]; omega
    have p5 : 0 < 2 ^ e := Nat.two_pow_pos _
    have p7 : (2 ^ (e + 1) - 1) / 2 = 2 ^ e - 1 := by omega
    by_cases ho : a % 2 = 1
    · rw [stripT_odd (by omega), stripT_odd (a := a) (b := 2 ^ (e + 1) - 1) ho, p7]
      exact strip_left e (a / 2) (b / 2) (by omega) (by omega) (by omega)
    · exact ⟨e + 1, a, b, stripT_even (by omega), stripT_even (by omega), by omega, h2, h3⟩
theorem strip_full : ∀ e b, 2 ^ e ≤ b → b < 2 ^ (e + 1) → stripT (2 ^ e - 1) b = (0, 1)
  | 0, b, h1, h2 => by
    rw [Nat.pow_zero] at h1
    rw [Nat.pow_succ, Nat.pow_zero] at h2
    obtain rfl : b = 1 := by omega
    exact stripT_even rfl
  | e + 1, b, h1, h2 => by
    have p4 : 2 ^ (e + 1) = 2 * 2 ^ e := by rw [Nat.pow_succ]; omega
    have p6 : 2 ^ (e + 1 + 1) = 2 * (2 * 2 ^ e) := by rw [Nat.pow_succ, Nat.pow_succ]; omega
    have p5 : 0 < 2 ^ e := Nat.two_pow_pos _
    rw [stripT_odd (by omega), show (2 ^ (e + 1) - 1) / 2 = 2 ^ e - 1 by omega]
    exact strip_full e (b / 2) (by omega) (by omega)
/-- the greatest power of two that is less than n -/
def hf (n : Nat) : Nat := 2 ^ Nat.log2 (n - 1)
theorem hf_spec {n : Nat} (h : 2 ≤ n) : 1 ≤ hf n ∧ hf n < n ∧ n ≤ 2 * hf n := by
  unfold hf
  have h1 := Nat.log2_self_le (n := n - 1) (by omega)
  have h2 := Nat.lt_log2_self (n := n - 1)
  have h3 : 2 ^ (Nat.log2 (n - 1) + 1) = 2 * 2 ^ Nat.log2 (n - 1) := by rw [Nat.pow_succ]; omega
  have h4 : 0 < 2 ^ Nat.log2 (n - 1) := Nat.two_pow_pos _
  omega
theorem pow_le_iff {a b : Nat} (h : 2 ^ a < 2 ^ b) : a < b := (Nat.pow_lt_pow_iff_right (by omega)).1 h
/-- a power of two that is less than n is at most the half -/
theorem hf_max {n e : Nat} (h : 2 ^ e < n) : 2 ^ e ≤ hf n := by
  have h1 := hf_spec (n := n) (by have := Nat.two_pow_pos e; omega)
  unfold hf at h1 ⊢
  have h2 : 2 ^ e < 2 ^ (Nat.log2 (n - 1) + 1) := by rw [Nat.pow_succ]; omega
  exact Nat.pow_le_pow_right (by omega) (by have := pow_le_iff h2; omega)
end Go.Proofs.YtijnjgjpmgmifaaDoor
