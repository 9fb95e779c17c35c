/-
  The walks of the reference implementation of layer 24: grow, Extended.
-/
import Derived.Test.YtijnjgjpmgmifaaDoorRl
import Derived.Test.YtijnjgjpmgmifaaDoorEd
namespace Go.Proofs.YtijnjgjpmgmifaaDoor
open Go.RowKit
def growF (a : Int) (m n : Nat) (mark : Bool) (path : List Int) : Int × Int × Bool := growJ pairF a m n mark path
set_option maxHeartbeats 4000000 in
theorem rgrow_any : ∀ (n m : Nat) (a : Int) (mark : Bool) (A : Option Addr) (c : Nat) (path : List Int) (w : World), n ≤ 10000 → 1 ≤ m → m ≤ n → path.length ≤ 100 → path.length ≤ c → KS .u64 w A path →
    Calls Tryd.prog 41 #[.int .u64 a, .int .i64 m, .int .i64 n, .bool mark, .slice A path.length c] w fun e w' => e = .returned (.tuple #[.int .u64 (growF a m n mark path).1, .int .u64 (growF a m n mark path).2.1, .bool (growF a m n mark path).2.2]) ∧ Below w.heap.size w w' := by
  intro n
  induction n using Nat.strongRecOn with
  | ind n ih =>
    intro m a mark A c path w hn hm1 hmn hL hc h
    by_cases hn2 : 2 ≤ n ∧ m ≠ n
    · obtain ⟨s1, s2, s3⟩ := hf_spec hn2.1
      have hne : ((m : Int) == (n : Int)) = false := by simp; omega
      rcases snoc_cases path with rfl | ⟨ps, p, rfl⟩
      · have HE := hide (show growF a m n mark [] = (0, 0, false) from growJ_nil hn2)
        rw [HE.out]
        clear ih h hn2
        go_enter Tryd.func41, Tryd.ntmps41
        go_wp2
        go_ret3
        exact ⟨rfl, Below.refl _ _⟩
      · have HL := hide (@growJ_left pairF a m n mark ps p hn2)
        have HR := hide (@growJ_right pairF a m n mark ps p hn2)
        obtain ⟨b, o, rfl, hbl, hcell⟩ := h.at_ (i := ps.length) (by simp)
        have cp := last_cell hcell
        have hp := ks_init h
        have HH := hide fun W => rHalf_any n W hn2.1 hn
        have hlen : (ps ++ [p]).length = ps.length + 1 := by simp
        rw [hlen] at hL hc ⊢
        obtain ⟨L, hLe⟩ : ∃ L, L = ps.length := ⟨_, rfl⟩
        obtain ⟨k, hk⟩ : ∃ k, k = hf n := ⟨_, rfl⟩
        rw [← hk] at HH s1 s2 s3 HL HR
        rw [← hLe] at cp hL hc ⊢
        have p1 : ((L : Int) + 1 == 0) = false := by simp; omega
        clear hcell hlen h
        by_cases hik : m ≤ k
        · have d3 : decide ((m : Int) ≤ (k : Int)) = true := decide_eq_true (by omega)
          have d4 : decide (m ≤ k) = true := decide_eq_true (by omega)
          have I1 := hide (ih k s2 m a mark (some ⟨b, o, none⟩) c ps w (by omega) hm1 hik (by omega) (by omega) hp)
          obtain ⟨x, hx⟩ : ∃ x, x = (growF a m k mark ps).1 := ⟨_, rfl⟩
          obtain ⟨y, hy⟩ : ∃ x, x = (growF a m k mark ps).2.1 := ⟨_, rfl⟩
          obtain ⟨z, hz⟩ : ∃ x, x = (growF a m k mark ps).2.2 := ⟨_, rfl⟩
          have HE := hide (show growF a m n mark (ps ++ [p]) = (x, pairF y p, z) by rw [hx, hy, hz]; exact HL.out hik)
          rw [HE.out]
          rw [← hx, ← hy, ← hz, ← hLe] at I1
          clear hp HL HR ih hk hik hx hy hz hLe hn2
          go_enter Tryd.func41, Tryd.ntmps41
          go_wp2_with (first
            | (go_at_call 45; refine (HH.out _).mono ?_; rintro e w2 ⟨rfl, rfl⟩)
            | (go_at_call 41; with_reducible refine I1.out.mono ?_; rintro e w3 ⟨rfl, hb3⟩)
            | (go_at_call 46; refine (rPair_any _ _ _).mono ?_; rintro e w4 ⟨rfl, hb4⟩))
          go_ret3
          exact ⟨rfl, hb3.trans (hb4.mono hb3.size)⟩
        · have d3 : decide ((m : Int) ≤ (k : Int)) = false := decide_eq_false (by omega)
          have d4 : decide (m ≤ k) = false := decide_eq_false (by omega)
          have I1 := hide (ih (n - k) (by omega) (m - k) a false (some ⟨b, o, none⟩) c ps w (by omega) (by omega) (by omega) (by omega) (by omega) hp)
          obtain ⟨x, hx⟩ : ∃ x, x = (growF a (m - k) (n - k) false ps).1 := ⟨_, rfl⟩
          obtain ⟨y, hy⟩ : ∃ x, x = (growF a (m - k) (n - k) false ps).2.1 := ⟨_, rfl⟩
          obtain ⟨z, hz⟩ : ∃ x, x = (growF a (m - k) (n - k) false ps).2.2 := ⟨_, rfl⟩
          have HE := hide (show growF a m n mark (ps ++ [p]) = (pairF p x, pairF p y, z) by rw [hx, hy, hz]; exact HR.out hik)
          rw [HE.out]
          rw [← hx, ← hy, ← hz, ← hLe, show ((m - k : Nat) : Int) = (m : Int) - k by omega, show ((n - k : Nat) : Int) = (n : Int) - k by omega] at I1
          have q1 : (0 : Int) ≤ (m : Int) - k := by omega
          have q2 : (m : Int) - k ≤ 10000 := by omega
          have q3 : (0 : Int) ≤ (n : Int) - k := by omega
          have q4 : (n : Int) - k ≤ 10000 := by omega
          clear hp HL HR ih hk hik hx hy hz hLe hn2
          go_enter Tryd.func41, Tryd.ntmps41
          go_wp2_with (first
            | (go_at_call 45; refine (HH.out _).mono ?_; rintro e w2 ⟨rfl, rfl⟩)
            | (go_at_call 41; with_reducible refine I1.out.mono ?_; rintro e w3 ⟨rfl, hb3⟩; have HB := hide hb3; clear hb3)
            | (go_at_call 46; refine (rPair_any _ _ _).mono ?_; rintro e w4 ⟨rfl, hb4⟩; have hh := HB.out.trans (hb4.mono HB.out.size); clear HB hb4; have HB := hide hh; clear hh))
          go_ret3
          exact ⟨rfl, HB.out⟩
    · obtain rfl : m = n := by omega
      have HE := hide (show growF a m m mark path = if mark = true then (a, a, path.isEmpty) else if path.length = 1 then (path.headD 0, path.headD 0, true) else (0, 0, false) from growJ_end (by omega))
      rw [HE.out]
      clear ih hn2
      cases mark
      · rw [if_neg (by simp)]
        by_cases h1 : path.length = 1
        · rw [if_pos h1]
          obtain ⟨b, o, rfl, hbl, hcell⟩ := h.at_ (i := 0) (by omega)
          have cp := hcell 0 (by omega)
          rw [Nat.add_zero] at cp
          obtain ⟨x, rfl⟩ : ∃ x, path = [x] := by
            cases path with
            | nil => simp at h1
            | cons x t => cases t with
              | nil => exact ⟨x, rfl⟩
              | cons y t => simp at h1
          rw [show ([x] : List Int).length = 1 from rfl]
          rw [List.getElem_cons_zero] at cp
          have n0 := fun y : Fut w.heap.size w => (y.cell b o hbl).trans cp
          clear hcell h h1
          go_enter Tryd.func41, Tryd.ntmps41
          go_wp2
          refine wp_region_fut w.heap.size (by kernel_rfl) (by kernel_rfl) ?_
          repeat (go_big_quiet_step ((first | fail)))
          refine wpQuiet_nil ?_
          intro w4 hq'; have hb4 := Fut.of hq'; clear hq'
          go_wp2
          go_ret3
          exact ⟨rfl, hb4⟩
        · rw [if_neg h1]
          have p1 : ((path.length : Int) != 1) = true := by simp; omega
          clear h
          go_enter Tryd.func41, Tryd.ntmps41
          go_wp2
          go_ret3
          exact ⟨rfl, Below.refl _ _⟩
      · rw [if_pos rfl]
        cases path with
        | nil =>
          clear h
          go_enter Tryd.func41, Tryd.ntmps41
          go_wp2
          go_ret3
          exact ⟨rfl, Below.refl _ _⟩
        | cons p ps =>
          rw [List.length_cons]
          have p1 : ((ps.length : Int) + 1 == 0) = false := by simp; omega
          clear h
          go_enter Tryd.func41, Tryd.ntmps41
          go_wp2
          go_ret3
          exact ⟨rfl, Below.refl _ _⟩
theorem growF_long {a : Int} {m n : Nat} {path : List Int} (hn : n ≤ 4096) (h : 20 < path.length) : growO pairF a m n true path = none := by
  have h1 := grow_len (pr := pairF) n a m true path
  have h2 := glen_le 12 n m true (by omega)
  unfold growO
  rw [h1, if_neg (by simp; omega)]
set_option maxHeartbeats 2000000 in
theorem rExtended_any (a b m n : Int) (A : Option Addr) (c : Nat) (path : List Int) (w : World) (hp : path.length ≤ 100) (hc : path.length ≤ c) (h : KS .u64 w A path) :
    Calls Tryd.prog 23 #[.int .u64 a, .int .u64 b, .int .i64 m, .int .i64 n, .slice A path.length c] w fun e w' => e = .returned (.bool (growS a b m n path)) ∧ Below w.heap.size w w' := by
  by_cases hbad : n < 1 ∨ 4096 < n ∨ m < 1 ∨ n < m
  · have hr : growS a b m n path = false := if_pos hbad
    rw [hr]
    have hcase : decide (n < 1) = true ∨ decide (n < 1) = false ∧ (decide (4096 < n) = true ∨ decide (4096 < n) = false ∧ (decide (m < 1) = true ∨ decide (m < 1) = false ∧ decide (n < m) = true)) := by
      simp only [decide_eq_true_eq, decide_eq_false_iff_not]; omega
    clear hbad hr h
    rcases hcase with q1 | ⟨q1, q2 | ⟨q2, q3 | ⟨q3, q4⟩⟩⟩
    all_goals
      go_enter Tryd.func23, Tryd.ntmps23
      go_wp2
      go_ret
      exact ⟨rfl, Below.refl _ _⟩
  · obtain ⟨nn, rfl⟩ : ∃ j : Nat, n = j := ⟨n.toNat, by omega⟩
    obtain ⟨mm, rfl⟩ : ∃ j : Nat, m = j := ⟨m.toNat, by omega⟩
    have hr : growS a b mm nn path = decide (growO pairF a mm nn true path = some (a, b)) := by
      unfold growS
      rw [if_neg hbad, Int.toNat_natCast, Int.toNat_natCast]
    rw [hr]
    have q1 : decide ((nn : Int) < 1) = false := decide_eq_false (by omega)
    have q2 : decide (4096 < (nn : Int)) = false := decide_eq_false (by omega)
    have q3 : decide ((mm : Int) < 1) = false := decide_eq_false (by omega)
    have q4 : decide ((nn : Int) < mm) = false := decide_eq_false (by omega)
    have q4' : decide (nn < mm) = false := decide_eq_false (by omega)
    by_cases hlong : 20 < path.length
    · have q5 : decide (20 < (path.length : Int)) = true := decide_eq_true (by omega)
      have q5' : decide (20 < path.length) = true := decide_eq_true (by omega)
      rw [growF_long (by omega) hlong]
      clear hbad hr h
      go_enter Tryd.func23, Tryd.ntmps23
      go_wp2
      go_ret
      exact ⟨rfl, Below.refl _ _⟩
    · have q5 : decide (20 < (path.length : Int)) = false := decide_eq_false (by omega)
      have q5' : decide (20 < path.length) = false := decide_eq_false (by omega)
      have R := hide (rgrow_any nn mm a true A c path w (by omega) (by omega) (by omega) (by omega) hc h)
      obtain ⟨x, hx⟩ : ∃ x, x = (growF a mm nn true path).1 := ⟨_, rfl⟩
      obtain ⟨y, hy⟩ : ∃ x, x = (growF a mm nn true path).2.1 := ⟨_, rfl⟩
      obtain ⟨z, hz⟩ : ∃ x, x = (growF a mm nn true path).2.2 := ⟨_, rfl⟩
      rw [← hx, ← hy, ← hz] at R
      have HE := hide (show decide (growO pairF a mm nn true path = some (a, b)) = (z && (x == a) && (y == b)) by
        unfold growO
        rw [show growJ pairF a mm nn true path = (x, y, z) by rw [hx, hy, hz]; rfl]
        cases z <;> simp
        rw [Bool.eq_iff_iff]; simp)
      clear hbad hr h hx hy hz
      cases z
      · go_enter Tryd.func23, Tryd.ntmps23
        go_wp2_with (go_at_call 41; with_reducible refine R.out.mono ?_; rintro e w3 ⟨rfl, hb3⟩)
        go_ret
        exact ⟨by rw [HE.out]; rfl, hb3⟩
      · cases q : (x == a)
        all_goals
          go_enter Tryd.func23, Tryd.ntmps23
          go_wp2_with (go_at_call 41; with_reducible refine R.out.mono ?_; rintro e w3 ⟨rfl, hb3⟩)
          go_ret
          exact ⟨by rw [HE.out, q]; simp, hb3⟩
end Go.Proofs.YtijnjgjpmgmifaaDoor
