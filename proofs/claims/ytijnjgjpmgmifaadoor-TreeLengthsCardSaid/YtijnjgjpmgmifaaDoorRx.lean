/-
  The walks of the reference implementation of layer 24: Include, extend, Extend.
-/
import Derived.Test.YtijnjgjpmgmifaaDoorRi
namespace Go.Proofs.YtijnjgjpmgmifaaDoor
open Go.RowKit
set_option maxHeartbeats 2000000 in
theorem rInclude_any (A : Option Addr) (c : Nat) (l : List Int) (i : Int) (w : World) (hc : l.length ≤ c) (h : KS .u64 w A l) :
    Calls Tryd.prog 16 #[.slice A l.length c, .int .i64 i] w fun e w' => ∃ A' c', e = .returned (.tuple #[.slice A' (incS l i).1.length c', .int .i64 (incS l i).2]) ∧ (incS l i).1.length ≤ c' ∧ c' ≤ maxLen ∧ KS .u64 w' A' (incS l i).1 ∧ Below w.heap.size w w' := by
  have HC := hide fun W => rcheck_any A c l W
  unfold incS
  by_cases hk : checkS l = 0
  · obtain ⟨h1, h2⟩ := checkS_ok hk
    rw [if_neg (by simpa using hk)]
    rw [hk] at HC
    clear hk
    by_cases hbad : i < 0 ∨ (l.length : Int) ≤ i
    · rw [if_pos hbad]
      have hcase : decide (i < 0) = true ∨ decide (i < 0) = false ∧ decide ((l.length : Int) ≤ i) = true := by
        simp only [decide_eq_true_eq, decide_eq_false_iff_not]; omega
      clear hbad h
      rcases hcase with q1 | ⟨q1, q2⟩
      all_goals
        go_enter Tryd.func16, Tryd.ntmps16
        go_wp2_with (go_at_call 29; refine (HC.out _).mono ?_; rintro e w2 ⟨rfl, rfl⟩)
        go_ret2
        exact ⟨none, 0, rfl, Nat.le_refl _, by simp [maxLen], Rd.nil _ _, Below.refl _ _⟩
    · rw [if_neg hbad]
      obtain ⟨j, rfl⟩ : ∃ j : Nat, i = j := ⟨i.toNat, by omega⟩
      have q1 : decide ((j : Int) < 0) = false := decide_eq_false (by omega)
      have q2 : decide ((l.length : Int) ≤ j) = false := decide_eq_false (by omega)
      have q3 : decide (l.length ≤ j) = false := decide_eq_false (by omega)
      have R := hide (rinclude_any l.length A c l j w rfl h1 (by omega) hc (by omega) h)
      rw [Int.toNat_natCast]
      clear hbad h
      go_enter Tryd.func16, Tryd.ntmps16
      go_wp2_with (first
        | (go_at_call 29; refine (HC.out _).mono ?_; rintro e w2 ⟨rfl, rfl⟩)
        | (go_at_call 34; with_reducible refine R.out.mono ?_; rintro e w3 ⟨v3, rfl, ho3, hb3⟩; obtain ⟨A3, c3, rfl, hl3, hm3, hk3⟩ := ho3.form; have HK := hide hk3; clear ho3 hk3))
      go_ret2
      exact ⟨A3, c3, rfl, hl3, hm3, HK.out, hb3⟩
  · rw [if_pos hk]
    obtain ⟨x, hx⟩ : ∃ x, x = checkS l := ⟨_, rfl⟩
    rw [← hx] at HC hk ⊢
    have q : (x != 0) = true := by simp [hk]
    clear hk hx h
    go_enter Tryd.func16, Tryd.ntmps16
    go_wp2_with (go_at_call 29; refine (HC.out _).mono ?_; rintro e w2 ⟨rfl, rfl⟩)
    go_ret2
    exact ⟨none, 0, rfl, Nat.le_refl _, by simp [maxLen], Rd.nil _ _, Below.refl _ _⟩
set_option maxHeartbeats 4000000 in
theorem rextend_any : ∀ (n : Nat) (A : Option Addr) (c : Nat) (l : List Int) (m : Nat) (mark : Bool) (w : World), l.length = n → 1 ≤ m → m ≤ n → n ≤ 10000 → n ≤ c → KS .u64 w A l →
    Calls Tryd.prog 35 #[.slice A n c, .int .i64 m, .bool mark] w fun e w' => ∃ v, e = .returned v ∧ OwnK .u64 23 w' w.heap.size v (extF l m mark) ∧ Below w.heap.size w w' := by
  intro n
  induction n using Nat.strongRecOn with
  | ind n ih =>
    intro A c l m mark w hl h1 hmn hn hc h
    by_cases hn2 : 2 ≤ n ∧ m ≠ n
    · obtain ⟨b, o, rfl, hbl, hcell⟩ := h.at_ (i := 0) (by omega)
      have HL := hide (@extF_left l m mark (by omega))
      have HR := hide (@extF_right l m mark (by omega))
      rw [hl] at HL HR
      obtain ⟨s1, s2, s3⟩ := hf_spec hn2.1
      have HH := hide fun W => rHalf_any n W hn2.1 hn
      have hsh := KS.shift (n := hf n) h (by omega)
      obtain ⟨k, hk⟩ : ∃ k, k = hf n := ⟨_, rfl⟩
      rw [← hk] at HH s1 s2 s3 HL HR hsh
      have hne : ((m : Int) == (n : Int)) = false := by simp; omega
      have p1 : (0 : Int) ≤ k := by omega
      have p2 : (k : Int) ≤ n := by omega
      have p3 : (k : Int) ≤ c := by omega
      have p4 : ¬ c = k := by omega
      obtain ⟨i0, hi, hz0, hz1, hz2⟩ := info_parts infoU
      have R1 := hide fun W (s : Below w.heap.size w W) => rroot_any k (some ⟨b, o, none⟩) c (l.take k) W (by simp; omega) s1 (by omega) (by omega) (KS.below (h.pre k) s (Nat.le_refl _))
      have R2 := hide fun W (s : Below w.heap.size w W) => rroot_any (n - k) (some ⟨b, o + k, none⟩) (c - k) (l.drop k) W (by simp; omega) (by omega) (by omega) (by omega) (KS.below hsh s (Nat.le_refl _))
      by_cases hik : m ≤ k
      · have d3 : decide ((m : Int) ≤ (k : Int)) = true := decide_eq_true (by omega)
        have d4 : decide (m ≤ k) = true := decide_eq_true (by omega)
        have I1 := hide fun W (s : Below w.heap.size w W) => (ih k s2 (some ⟨b, o, none⟩) c (l.take k) m mark W (by simp; omega) h1 hik (by omega) (by omega) (KS.below (h.pre k) s (Nat.le_refl _))).mono (R' := fun e w' => ∃ v, e = .returned v ∧ OwnK .u64 23 w' w.heap.size v (extF (l.take k) m mark) ∧ Below W.heap.size W w' ∧ w.heap.size ≤ w'.heap.size ∧ Below w.heap.size w w') fun e w' ⟨v, he, ho, hb⟩ => ⟨v, he, ho.weak s.size, hb, Nat.le_trans s.size hb.size, s.trans (hb.mono s.size)⟩
        have H14 := extF_len (l := l.take k) (i := m) (mark := mark) (by simp; omega)
        have HE := hide (HL.out hik)
        clear hsh hcell h HL HR R1 ih hk hik hn2
        go_enter Tryd.func35, Tryd.ntmps35
        go_upto_region 7 with (go_at_call 45; refine (HH.out _).mono ?_; rintro e w2 ⟨rfl, rfl⟩)
        go_region_held3 (fun w' => Below w.heap.size w w') ((repeat (first | exact Below.refl _ _ | (refine Below.drew ?_) | (refine Below.alloc ?_ (by (first | ((repeat (first | simp only [World.size_alloc] | simp only [heap_drew])); omega) | omega | (simp; omega))) _) | (refine Below.trans ?_ (Below.mono (by assumption) (by (first | ((repeat (first | simp only [World.size_alloc] | simp only [heap_drew])); omega) | omega | (simp; omega))))))))
          (first
            | (go_at_call 35; with_reducible refine (I1.out _ (by assumption)).mono ?_; rintro e w3 ⟨v3, rfl, ho3, hb3, hs3, hw3⟩)
            | (go_at_call 30; with_reducible refine (R2.out _ (by assumption)).mono ?_; rintro e w4 ⟨rfl, hb4⟩; have hs4 := hb4.size; (repeat (first | simp only [World.size_alloc] at hs4 | simp only [heap_drew] at hs4)))
            | (refine step_append_rd rfl _ _ 22 (by rfl) w.heap.size 23 i0 _ 1 8 Tryd.underlying22 hi hz0 hz1 hz2 rfl (by decide) _ _ _ (by rfl) (OwnK.below ho3 (by (repeat (first | exact Below.refl _ _ | (refine Below.drew ?_) | (refine Below.alloc ?_ (by (first | ((repeat (first | simp only [World.size_alloc] | simp only [heap_drew])); omega) | omega | (simp; omega))) _) | (refine Below.trans ?_ (Below.mono (by assumption) (by (first | ((repeat (first | simp only [World.size_alloc] | simp only [heap_drew])); omega) | omega | (simp; omega))))))))) _ 1 1 [.int .u64 (rootF (l.drop k))] (by rfl) rfl (Rd.new_row _ _ _) (by simp [Value.oneCell']) (by simp only [maxLen]; omega) (by omega) (show Below w.heap.size w _ by (repeat (first | exact Below.refl _ _ | (refine Below.drew ?_) | (refine Below.alloc ?_ (by (first | ((repeat (first | simp only [World.size_alloc] | simp only [heap_drew])); omega) | omega | (simp; omega))) _) | (refine Below.trans ?_ (Below.mono (by assumption) (by (first | ((repeat (first | simp only [World.size_alloc] | simp only [heap_drew])); omega) | omega | (simp; omega)))))))).size ?_; intro v6 w6 hown6 hgrow6 _; have hb6 : Below w.heap.size w w6 := (show Below w.heap.size w _ by (repeat (first | exact Below.refl _ _ | (refine Below.drew ?_) | (refine Below.alloc ?_ (by (first | ((repeat (first | simp only [World.size_alloc] | simp only [heap_drew])); omega) | omega | (simp; omega))) _) | (refine Below.trans ?_ (Below.mono (by assumption) (by (first | ((repeat (first | simp only [World.size_alloc] | simp only [heap_drew])); omega) | omega | (simp; omega)))))))).grown hgrow6 (show Below w.heap.size w _ by (repeat (first | exact Below.refl _ _ | (refine Below.drew ?_) | (refine Below.alloc ?_ (by (first | ((repeat (first | simp only [World.size_alloc] | simp only [heap_drew])); omega) | omega | (simp; omega))) _) | (refine Below.trans ?_ (Below.mono (by assumption) (by (first | ((repeat (first | simp only [World.size_alloc] | simp only [heap_drew])); omega) | omega | (simp; omega)))))))).size (fun g hg => (World.ownsRow.lt ho3 g hg).1)))
        all_goals
          go_wp2
          go_ret
          exact ⟨_, rfl, by rw [HE.out]; exact OwnK.snoc hown6 rfl rfl, hb6⟩
      · have d3 : decide ((m : Int) ≤ (k : Int)) = false := decide_eq_false (by omega)
        have d4 : decide (m ≤ k) = false := decide_eq_false (by omega)
        have q1 : (0 : Int) ≤ (m : Int) - k := by omega
        have q2 : (m : Int) - k ≤ 10000 := by omega
        have q3 : IntKind.i64.wrap ((m : Int) - k) = (m : Int) - k := IntWalk.i64_in _ (by omega)
        have I2 := ih (n - k) (by omega) (some ⟨b, o + k, none⟩) (c - k) (l.drop k) (m - k) false
        rw [show ((m - k : Nat) : Int) = (m : Int) - k by omega] at I2
        have I1 := hide fun W (s : Below w.heap.size w W) => (I2 W (by simp; omega) (by omega) (by omega) (by omega) (by omega) (KS.below hsh s (Nat.le_refl _))).mono (R' := fun e w' => ∃ v, e = .returned v ∧ OwnK .u64 23 w' w.heap.size v (extF (l.drop k) (m - k) false) ∧ Below W.heap.size W w' ∧ w.heap.size ≤ w'.heap.size ∧ Below w.heap.size w w') fun e w' ⟨v, he, ho, hb⟩ => ⟨v, he, ho.weak s.size, hb, Nat.le_trans s.size hb.size, s.trans (hb.mono s.size)⟩
        have H14 := extF_len (l := l.drop k) (i := m - k) (mark := false) (by simp; omega)
        have HE := hide (HR.out hik)
        clear hsh hcell h HL HR R2 ih hk hik I2 hn2
        go_enter Tryd.func35, Tryd.ntmps35
        go_upto_region 8 with (go_at_call 45; refine (HH.out _).mono ?_; rintro e w2 ⟨rfl, rfl⟩)
        go_region_held3 (fun w' => Below w.heap.size w w') ((repeat (first | exact Below.refl _ _ | (refine Below.drew ?_) | (refine Below.alloc ?_ (by (first | ((repeat (first | simp only [World.size_alloc] | simp only [heap_drew])); omega) | omega | (simp; omega))) _) | (refine Below.trans ?_ (Below.mono (by assumption) (by (first | ((repeat (first | simp only [World.size_alloc] | simp only [heap_drew])); omega) | omega | (simp; omega))))))))
          (first
            | (go_at_call 35; with_reducible refine (I1.out _ (by assumption)).mono ?_; rintro e w3 ⟨v3, rfl, ho3, hb3, hs3, hw3⟩)
            | (go_at_call 30; with_reducible refine (R1.out _ (by assumption)).mono ?_; rintro e w4 ⟨rfl, hb4⟩; have hs4 := hb4.size; (repeat (first | simp only [World.size_alloc] at hs4 | simp only [heap_drew] at hs4)))
            | (refine step_append_rd rfl _ _ 22 (by rfl) w.heap.size 23 i0 _ 1 8 Tryd.underlying22 hi hz0 hz1 hz2 rfl (by decide) _ _ _ (by rfl) (OwnK.below ho3 (by (repeat (first | exact Below.refl _ _ | (refine Below.drew ?_) | (refine Below.alloc ?_ (by (first | ((repeat (first | simp only [World.size_alloc] | simp only [heap_drew])); omega) | omega | (simp; omega))) _) | (refine Below.trans ?_ (Below.mono (by assumption) (by (first | ((repeat (first | simp only [World.size_alloc] | simp only [heap_drew])); omega) | omega | (simp; omega))))))))) _ 1 1 [.int .u64 (rootF (l.take k))] (by rfl) rfl (Rd.new_row _ _ _) (by simp [Value.oneCell']) (by simp only [maxLen]; omega) (by omega) (show Below w.heap.size w _ by (repeat (first | exact Below.refl _ _ | (refine Below.drew ?_) | (refine Below.alloc ?_ (by (first | ((repeat (first | simp only [World.size_alloc] | simp only [heap_drew])); omega) | omega | (simp; omega))) _) | (refine Below.trans ?_ (Below.mono (by assumption) (by (first | ((repeat (first | simp only [World.size_alloc] | simp only [heap_drew])); omega) | omega | (simp; omega)))))))).size ?_; intro v6 w6 hown6 hgrow6 _; have hb6 : Below w.heap.size w w6 := (show Below w.heap.size w _ by (repeat (first | exact Below.refl _ _ | (refine Below.drew ?_) | (refine Below.alloc ?_ (by (first | ((repeat (first | simp only [World.size_alloc] | simp only [heap_drew])); omega) | omega | (simp; omega))) _) | (refine Below.trans ?_ (Below.mono (by assumption) (by (first | ((repeat (first | simp only [World.size_alloc] | simp only [heap_drew])); omega) | omega | (simp; omega)))))))).grown hgrow6 (show Below w.heap.size w _ by (repeat (first | exact Below.refl _ _ | (refine Below.drew ?_) | (refine Below.alloc ?_ (by (first | ((repeat (first | simp only [World.size_alloc] | simp only [heap_drew])); omega) | omega | (simp; omega))) _) | (refine Below.trans ?_ (Below.mono (by assumption) (by (first | ((repeat (first | simp only [World.size_alloc] | simp only [heap_drew])); omega) | omega | (simp; omega)))))))).size (fun g hg => (World.ownsRow.lt ho3 g hg).1)))
        all_goals
          go_wp2
          go_ret
          exact ⟨_, rfl, by rw [HE.out]; exact OwnK.snoc hown6 rfl rfl, hb6⟩
    · obtain rfl : m = n := by omega
      have HR := hide fun W => rroot_any m A c l W hl h1 hn hc
      rw [extF_end (by omega)]
      clear ih hn2
      cases mark
      · have HK := hide h
        rw [if_neg (by simp)]
        clear h
        go_enter Tryd.func35, Tryd.ntmps35
        go_wp2_with (go_at_call 30; refine (HR.out _ HK.out).mono ?_; rintro e w4 ⟨rfl, hb4⟩)
        go_ret
        exact ⟨_, rfl, ⟨rfl, .inr ⟨w4.heap.size, 1, #[.int .u64 (rootF l)], rfl, hb4.size, heap_alloc_new w4 _, Nat.le_refl _, by simp [maxLen], rfl, rfl⟩⟩, hb4.trans ((Below.refl _ _).alloc hb4.size _)⟩
      · rw [if_pos rfl]
        clear h
        go_enter Tryd.func35, Tryd.ntmps35
        go_wp2
        go_ret
        exact ⟨_, rfl, OwnK.nil, Below.refl _ _⟩
set_option maxHeartbeats 2000000 in
theorem rExtend_any (A : Option Addr) (c : Nat) (l : List Int) (i : Int) (w : World) (hc : l.length ≤ c) (h : KS .u64 w A l) :
    Calls Tryd.prog 19 #[.slice A l.length c, .int .i64 i] w fun e w' => ∃ A' c', e = .returned (.tuple #[.slice A' (extS l i).1.length c', .int .i64 (extS l i).2]) ∧ (extS l i).1.length ≤ c' ∧ c' ≤ maxLen ∧ KS .u64 w' A' (extS l i).1 ∧ Below w.heap.size w w' := by
  have HC := hide fun W => rcheck_any A c l W
  unfold extS
  by_cases hk : checkS l = 0
  · obtain ⟨h1, h2⟩ := checkS_ok hk
    rw [if_neg (by simpa using hk)]
    rw [hk] at HC
    clear hk
    by_cases hbad : i < 1 ∨ (l.length : Int) < i
    · rw [if_pos hbad]
      have hcase : decide (i < 1) = true ∨ decide (i < 1) = false ∧ decide ((l.length : Int) < i) = true := by
        simp only [decide_eq_true_eq, decide_eq_false_iff_not]; omega
      clear hbad h
      rcases hcase with q1 | ⟨q1, q2⟩
      all_goals
        go_enter Tryd.func19, Tryd.ntmps19
        go_wp2_with (go_at_call 29; refine (HC.out _).mono ?_; rintro e w2 ⟨rfl, rfl⟩)
        go_ret2
        exact ⟨none, 0, rfl, Nat.le_refl _, by simp [maxLen], Rd.nil _ _, Below.refl _ _⟩
    · rw [if_neg hbad]
      obtain ⟨j, rfl⟩ : ∃ j : Nat, i = j := ⟨i.toNat, by omega⟩
      have q1 : decide ((j : Int) < 1) = false := decide_eq_false (by omega)
      have q2 : decide ((l.length : Int) < j) = false := decide_eq_false (by omega)
      have q3 : decide (l.length < j) = false := decide_eq_false (by omega)
      have R := hide (rextend_any l.length A c l j true w rfl (by omega) (by omega) (by omega) hc h)
      rw [Int.toNat_natCast]
      clear hbad h
      go_enter Tryd.func19, Tryd.ntmps19
      go_wp2_with (first
        | (go_at_call 29; refine (HC.out _).mono ?_; rintro e w2 ⟨rfl, rfl⟩)
        | (go_at_call 35; with_reducible refine R.out.mono ?_; rintro e w3 ⟨v3, rfl, ho3, hb3⟩; obtain ⟨A3, c3, rfl, hl3, hm3, hk3⟩ := ho3.form; have HK := hide hk3; clear ho3 hk3))
      go_ret2
      exact ⟨A3, c3, rfl, hl3, hm3, HK.out, hb3⟩
  · rw [if_pos hk]
    obtain ⟨x, hx⟩ : ∃ x, x = checkS l := ⟨_, rfl⟩
    rw [← hx] at HC hk ⊢
    have q : (x != 0) = true := by simp [hk]
    clear hk hx h
    go_enter Tryd.func19, Tryd.ntmps19
    go_wp2_with (go_at_call 29; refine (HC.out _).mono ?_; rintro e w2 ⟨rfl, rfl⟩)
    go_ret2
    exact ⟨none, 0, rfl, Nat.le_refl _, by simp [maxLen], Rd.nil _ _, Below.refl _ _⟩
end Go.Proofs.YtijnjgjpmgmifaaDoor
