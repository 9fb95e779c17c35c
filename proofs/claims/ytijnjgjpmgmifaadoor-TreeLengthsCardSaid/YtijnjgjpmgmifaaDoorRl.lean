/-
  The walks of the reference implementation of layer 24: lead, Included.
-/
import Derived.Test.YtijnjgjpmgmifaaDoorRa
import Derived.Test.YtijnjgjpmgmifaaDoorIn
namespace Go.Proofs.YtijnjgjpmgmifaaDoor
open Go.RowKit
def leadF (d : Int) (i n : Nat) (path : List Int) : Int × Bool := leadJ leafF pairF d i n path
theorem last_cell {w : World} {b o : Nat} {ps : List Int} {p : Int} (h : ∀ i (hi : i < (ps ++ [p]).length), w.cell? ⟨b, o + i, none⟩ = some (.int .u64 (ps ++ [p])[i])) : w.cell? ⟨b, o + ps.length, none⟩ = some (.int .u64 p) := by
  have := h ps.length (by simp)
  rw [this]; simp
theorem ks_init {w : World} {A : Option Addr} {ps : List Int} {p : Int} (h : KS .u64 w A (ps ++ [p])) : KS .u64 w A ps := by simpa using h.pre ps.length
set_option maxHeartbeats 4000000 in
theorem rlead_any : ∀ (n i : Nat) (d : Int) (A : Option Addr) (c : Nat) (path : List Int) (w : World), n ≤ 10000 → i < n → path.length ≤ 100 → path.length ≤ c → KS .u64 w A path →
    Calls Tryd.prog 38 #[.int .u64 d, .int .i64 i, .int .i64 n, .slice A path.length c] w fun e w' => e = .returned (.tuple #[.int .u64 (leadF d i n path).1, .bool (leadF d i n path).2]) ∧ Below w.heap.size w w' := by
  intro n
  induction n using Nat.strongRecOn with
  | ind n ih =>
    intro i d A c path w hn hin hL hc h
    by_cases hn2 : 2 ≤ n
    · obtain ⟨s1, s2, s3⟩ := hf_spec hn2
      have hne : ((n : Int) == 1) = false := by simp; omega
      rcases snoc_cases path with rfl | ⟨ps, p, rfl⟩
      · have HE := hide (show leadF d i n [] = (0, false) from leadJ_nil hn2)
        rw [HE.out]
        clear ih h
        go_enter Tryd.func38, Tryd.ntmps38
        go_wp2
        go_ret2
        exact ⟨rfl, Below.refl _ _⟩
      · have HL := hide (@leadJ_left leafF pairF d i n ps p hn2)
        have HR := hide (@leadJ_right leafF pairF d i n ps p hn2)
        obtain ⟨b, o, rfl, hbl, hcell⟩ := h.at_ (i := ps.length) (by simp)
        have cp := last_cell hcell
        have hp := ks_init h
        have HH := hide fun W => rHalf_any n W hn2 hn
        have hlen : (ps ++ [p]).length = ps.length + 1 := by simp
        rw [hlen] at hL hc ⊢
        obtain ⟨L, hLe⟩ : ∃ L, L = ps.length := ⟨_, rfl⟩
        obtain ⟨k, hk⟩ : ∃ k, k = hf n := ⟨_, rfl⟩
        rw [← hk] at HH s1 s2 s3 HL HR
        rw [← hLe] at cp hL hc ⊢
        have p1 : ((L : Int) + 1 == 0) = false := by simp; omega
        clear hcell hlen h
        by_cases hik : i < k
        · have d3 : decide ((i : Int) < (k : Int)) = true := decide_eq_true (by omega)
          have d4 : decide (i < k) = true := decide_eq_true (by omega)
          have I1 := hide (ih k s2 i d (some ⟨b, o, none⟩) c ps w (by omega) hik (by omega) (by omega) hp)
          obtain ⟨x, hx⟩ : ∃ x, x = (leadF d i k ps).1 := ⟨_, rfl⟩
          obtain ⟨y, hy⟩ : ∃ x, x = (leadF d i k ps).2 := ⟨_, rfl⟩
          have HE := hide (show leadF d i n (ps ++ [p]) = (pairF x p, y) by rw [hx, hy]; exact HL.out hik)
          rw [HE.out]
          rw [← hx, ← hy, ← hLe] at I1
          clear hp HL HR ih hk hik hx hy hLe
          go_enter Tryd.func38, Tryd.ntmps38
          go_wp2_with (first
            | (go_at_call 45; refine (HH.out _).mono ?_; rintro e w2 ⟨rfl, rfl⟩)
            | (go_at_call 38; with_reducible refine I1.out.mono ?_; rintro e w3 ⟨rfl, hb3⟩)
            | (go_at_call 46; refine (rPair_any _ _ _).mono ?_; rintro e w4 ⟨rfl, hb4⟩))
          go_ret2
          exact ⟨rfl, hb3.trans (hb4.mono hb3.size)⟩
        · have d3 : decide ((i : Int) < (k : Int)) = false := decide_eq_false (by omega)
          have d4 : decide (i < k) = false := decide_eq_false (by omega)
          have I1 := hide (ih (n - k) (by omega) (i - k) d (some ⟨b, o, none⟩) c ps w (by omega) (by omega) (by omega) (by omega) hp)
          obtain ⟨x, hx⟩ : ∃ x, x = (leadF d (i - k) (n - k) ps).1 := ⟨_, rfl⟩
          obtain ⟨y, hy⟩ : ∃ x, x = (leadF d (i - k) (n - k) ps).2 := ⟨_, rfl⟩
          have HE := hide (show leadF d i n (ps ++ [p]) = (pairF p x, y) by rw [hx, hy]; exact HR.out hik)
          rw [HE.out]
          rw [← hx, ← hy, ← hLe, show ((i - k : Nat) : Int) = (i : Int) - k by omega, show ((n - k : Nat) : Int) = (n : Int) - k by omega] at I1
          have q1 : (0 : Int) ≤ (i : Int) - k := by omega
          have q2 : (i : Int) - k ≤ 10000 := by omega
          have q3 : (0 : Int) ≤ (n : Int) - k := by omega
          have q4 : (n : Int) - k ≤ 10000 := by omega
          clear hp HL HR ih hk hik hx hy hLe
          go_enter Tryd.func38, Tryd.ntmps38
          go_wp2_with (first
            | (go_at_call 45; refine (HH.out _).mono ?_; rintro e w2 ⟨rfl, rfl⟩)
            | (go_at_call 38; with_reducible refine I1.out.mono ?_; rintro e w3 ⟨rfl, hb3⟩)
            | (go_at_call 46; refine (rPair_any _ _ _).mono ?_; rintro e w4 ⟨rfl, hb4⟩))
          go_ret2
          exact ⟨rfl, hb3.trans (hb4.mono hb3.size)⟩
    · obtain rfl : n = 1 := by omega
      obtain rfl : i = 0 := by omega
      have HE := hide (show leadF d 0 1 path = (leafF d, path.isEmpty) from leadJ_one (by omega))
      rw [HE.out]
      clear ih
      cases path with
      | nil =>
        clear h
        go_enter Tryd.func38, Tryd.ntmps38
        go_wp2_with (go_at_call 14; refine (rLeaf_any _ _).mono ?_; rintro e w2 ⟨rfl, hb⟩)
        go_ret2
        exact ⟨rfl, hb⟩
      | cons p ps =>
        rw [List.length_cons]
        have p1 : ((ps.length : Int) + 1 == 0) = false := by simp; omega
        clear h
        go_enter Tryd.func38, Tryd.ntmps38
        go_wp2_with (go_at_call 14; refine (rLeaf_any _ _).mono ?_; rintro e w2 ⟨rfl, hb⟩)
        go_ret2
        exact ⟨rfl, hb⟩
theorem leadF_long {d : Int} {i n : Nat} {path : List Int} (hn : n ≤ 4096) (h : 20 < path.length) : leadO leafF pairF d i n path = none := by
  have h1 := lead_len (lf := leafF) (pr := pairF) n d i path
  have h2 := plen_le 12 n i (by omega)
  unfold leadO
  rw [h1, if_neg (by simp; omega)]
set_option maxHeartbeats 2000000 in
theorem rIncluded_any (root leaf i n : Int) (A : Option Addr) (c : Nat) (path : List Int) (w : World) (hp : path.length ≤ 100) (hc : path.length ≤ c) (h : KS .u64 w A path) :
    Calls Tryd.prog 21 #[.int .u64 root, .int .u64 leaf, .int .i64 i, .int .i64 n, .slice A path.length c] w fun e w' => e = .returned (.bool (inclS root leaf i n path)) ∧ Below w.heap.size w w' := by
  by_cases hbad : n < 1 ∨ 4096 < n ∨ i < 0 ∨ n ≤ i
  · have hr : inclS root leaf i n path = false := if_pos hbad
    rw [hr]
    have hcase : decide (n < 1) = true ∨ decide (n < 1) = false ∧ (decide (4096 < n) = true ∨ decide (4096 < n) = false ∧ (decide (i < 0) = true ∨ decide (i < 0) = false ∧ decide (n ≤ i) = true)) := by
      simp only [decide_eq_true_eq, decide_eq_false_iff_not]; omega
    clear hbad hr h
    rcases hcase with q1 | ⟨q1, q2 | ⟨q2, q3 | ⟨q3, q4⟩⟩⟩
    all_goals
      go_enter Tryd.func21, Tryd.ntmps21
      go_wp2
      go_ret
      exact ⟨rfl, Below.refl _ _⟩
  · obtain ⟨nn, rfl⟩ : ∃ j : Nat, n = j := ⟨n.toNat, by omega⟩
    obtain ⟨ii, rfl⟩ : ∃ j : Nat, i = j := ⟨i.toNat, by omega⟩
    have hr : inclS root leaf ii nn path = decide (leadO leafF pairF leaf ii nn path = some root) := by
      unfold inclS
      rw [if_neg hbad, Int.toNat_natCast, Int.toNat_natCast, lead_walk nn leaf ii path (by omega)]
      rfl
    rw [hr]
    have q1 : decide ((nn : Int) < 1) = false := decide_eq_false (by omega)
    have q2 : decide (4096 < (nn : Int)) = false := decide_eq_false (by omega)
    have q3 : decide ((ii : Int) < 0) = false := decide_eq_false (by omega)
    have q4 : decide ((nn : Int) ≤ ii) = false := decide_eq_false (by omega)
    have q4' : decide (nn ≤ ii) = false := decide_eq_false (by omega)
    by_cases hlong : 20 < path.length
    · have q5 : decide (20 < (path.length : Int)) = true := decide_eq_true (by omega)
      have q5' : decide (20 < path.length) = true := decide_eq_true (by omega)
      rw [leadF_long (by omega) hlong]
      clear hbad hr h
      go_enter Tryd.func21, Tryd.ntmps21
      go_wp2
      go_ret
      exact ⟨rfl, Below.refl _ _⟩
    · have q5 : decide (20 < (path.length : Int)) = false := decide_eq_false (by omega)
      have q5' : decide (20 < path.length) = false := decide_eq_false (by omega)
      have R := hide (rlead_any nn ii leaf A c path w (by omega) (by omega) (by omega) hc h)
      obtain ⟨x, hx⟩ : ∃ x, x = (leadF leaf ii nn path).1 := ⟨_, rfl⟩
      obtain ⟨y, hy⟩ : ∃ x, x = (leadF leaf ii nn path).2 := ⟨_, rfl⟩
      rw [← hx, ← hy] at R
      have HE : decide (leadO leafF pairF leaf ii nn path = some root) = (y && (x == root)) := by
        unfold leadO
        rw [show leadJ leafF pairF leaf ii nn path = (x, y) by rw [hx, hy]; rfl]
        cases y <;> simp
        rw [Bool.eq_iff_iff]; simp
      rw [HE]
      clear hbad hr h hx hy HE
      cases y
      · go_enter Tryd.func21, Tryd.ntmps21
        go_wp2_with (go_at_call 38; with_reducible refine R.out.mono ?_; rintro e w3 ⟨rfl, hb3⟩)
        go_ret
        exact ⟨rfl, hb3⟩
      · go_enter Tryd.func21, Tryd.ntmps21
        go_wp2_with (go_at_call 38; with_reducible refine R.out.mono ?_; rintro e w3 ⟨rfl, hb3⟩)
        go_ret
        exact ⟨by simp, hb3⟩
end Go.Proofs.YtijnjgjpmgmifaaDoor
