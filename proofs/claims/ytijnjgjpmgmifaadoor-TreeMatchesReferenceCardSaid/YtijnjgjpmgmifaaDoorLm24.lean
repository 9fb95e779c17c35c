/-
  The walk of the law TreeMatchesReference.
-/
import Derived.Test.YtijnjgjpmgmifaaDoorHd24
namespace Go.Proofs.YtijnjgjpmgmifaaDoor
open Go.RowKit
theorem checkS_len {l : List Int} : checkS l = 0 → l.length ≤ 4096 := fun h => (checkS_ok h).2
theorem incS_len (l : List Int) (i : Int) : (incS l i).1.length ≤ 12 := by
  unfold incS
  by_cases h : checkS l ≠ 0
  · rw [if_pos h]; simp
  · rw [if_neg h]
    by_cases h2 : i < 0 ∨ (l.length : Int) ≤ i
    · rw [if_pos h2]; simp
    · rw [if_neg h2]; exact inclF_le (checkS_len (by simpa using h))
theorem extS_len (l : List Int) (i : Int) : (extS l i).1.length ≤ 13 := by
  unfold extS
  by_cases h : checkS l ≠ 0
  · rw [if_pos h]; simp
  · rw [if_neg h]
    by_cases h2 : i < 1 ∨ (l.length : Int) < i
    · rw [if_pos h2]; simp
    · rw [if_neg h2]; exact extF_le (checkS_len (by simpa using h))
theorem matches_cut (A B : Option Addr) (c d L P : Nat) (i n a b : Int) (w : World) (hc : 100 < L ∧ L ≤ 4096 ∨ 100 < P) :
    Calls Tryd.prog 3 #[.slice A L c, .int .i64 i, .int .i64 n, .int .u64 a, .int .u64 b, .slice B P d] w fun e w' => e = .returned (.bool true) ∧ Below w.heap.size w w' := by
  have HH := hide head_any
  have hcase : (decide (100 < (L : Int)) = true ∧ decide (100 < L) = true) ∧ decide ((L : Int) ≤ 4096) = true ∧ decide (L ≤ 4096) = true ∨ ((decide (100 < (L : Int)) = true ∧ decide (100 < L) = true) ∧ decide ((L : Int) ≤ 4096) = false ∧ decide (L ≤ 4096) = false ∨ decide (100 < (L : Int)) = false ∧ decide (100 < L) = false) ∧ decide (100 < (P : Int)) = true ∧ decide (100 < P) = true := by
    simp only [decide_eq_true_eq, decide_eq_false_iff_not]; omega
  clear hc
  rcases hcase with ⟨⟨q1, q2⟩, q3, q4⟩ | ⟨⟨⟨q1, q2⟩, q3, q4⟩ | ⟨q1, q2⟩, q5, q6⟩
  all_goals
    go_enter Tryd.func3, Tryd.ntmps3
    go_wp2_with (go_at_call 10; refine (HH.out _).mono ?_; rintro e w1 ⟨rfl, hb⟩)
    go_ret
    exact ⟨rfl, hb⟩
set_option maxHeartbeats 8000000 in
theorem matches_walk (A B : Option Addr) (c d : Nat) (l path : List Int) (i n a b : Int) (w : World) (hlc : l.length ≤ c) (hpc : path.length ≤ d) (h : KS .u64 w A l) (h' : KS .u64 w B path) :
    Calls Tryd.prog 3 #[.slice A l.length c, .int .i64 i, .int .i64 n, .int .u64 a, .int .u64 b, .slice B path.length d] w fun e w' => e = .returned (.bool true) ∧ Below w.heap.size w w' := by
  by_cases hcut : 100 < l.length ∧ l.length ≤ 4096 ∨ 100 < path.length
  · exact matches_cut A B c d _ _ i n a b w hcut
  have HH := hide head_any
  have T := hide (((AllK.one h).add h'))
  have BB := hide (Below.refl w.heap.size w)
  have hpl : path.length ≤ 100 := by omega
  have R1 := hide fun W s => Root_any A c l W hlc s
  have R2 := hide fun W s => rRoot_any A c l W hlc s
  have I1 := hide fun W s => Include_any A c l i W hlc s
  have I2 := hide fun W s => rInclude_any A c l i W hlc s
  have E1 := hide fun W s => Extend_any A c l i W hlc s
  have E2 := hide fun W s => rExtend_any A c l i W hlc s
  have V1 := hide fun W s => included_any a b i n B d path W (by omega) s
  have V2 := hide fun W s => rIncluded_any a b i n B d path W hpl hpc s
  have G1 := hide fun W s => Extended_any a b i n B d path W (by omega) hpc s
  have G2 := hide fun W s => rExtended_any a b i n B d path W hpl hpc s
  have K1 := hide fun W => leaf_any a W
  have K2 := hide fun W => rLeaf_any a W
  have PL := hide (incS_len l i)
  have QL := hide (extS_len l i)
  obtain ⟨x, hx⟩ : ∃ x, x = (rootS l).1 := ⟨_, rfl⟩
  obtain ⟨xe, hxe⟩ : ∃ x, x = (rootS l).2 := ⟨_, rfl⟩
  obtain ⟨p, hp⟩ : ∃ x, x = (incS l i).1 := ⟨_, rfl⟩
  obtain ⟨pe, hpe⟩ : ∃ x, x = (incS l i).2 := ⟨_, rfl⟩
  obtain ⟨q, hq⟩ : ∃ x, x = (extS l i).1 := ⟨_, rfl⟩
  obtain ⟨qe, hqe⟩ : ∃ x, x = (extS l i).2 := ⟨_, rfl⟩
  obtain ⟨v, hv⟩ : ∃ x, x = inclS a b i n path := ⟨_, rfl⟩
  obtain ⟨g, hg⟩ : ∃ x, x = growS a b i n path := ⟨_, rfl⟩
  obtain ⟨k, hk⟩ : ∃ x, x = leafF a := ⟨_, rfl⟩
  rw [← hx, ← hxe] at R1 R2
  rw [← hpe] at I1 I2
  rw [← hqe] at E1 E2
  simp only [← hp, ← hq] at I1 I2 E1 E2 PL QL
  rw [← hv] at V1 V2
  rw [← hg] at G1 G2
  rw [← hk] at K1 K2
  have hcase : (decide (100 < (l.length : Int)) = true ∧ decide (100 < l.length) = true) ∧ decide ((l.length : Int) ≤ 4096) = false ∧ decide (l.length ≤ 4096) = false ∨ decide (100 < (l.length : Int)) = false ∧ decide (100 < l.length) = false := by
    simp only [decide_eq_true_eq, decide_eq_false_iff_not]; omega
  have q5 : decide (100 < (path.length : Int)) = false := decide_eq_false (by omega)
  have q6 : decide (100 < path.length) = false := decide_eq_false (by omega)
  clear hcut hlc hpc hpl h h' hx hxe hp hpe hq hqe hv hg hk
  rcases hcase with ⟨⟨q1, q2⟩, q3, q4⟩ | ⟨q1, q2⟩
  all_goals
    go_enter Tryd.func3, Tryd.ntmps3
    go_wp2_with (first
      | (go_at_call 10; refine (HH.out _).mono ?_; rintro e w1 ⟨rfl, h1⟩; have T := hide (T.out.then_ h1); have BB := hide (thenB BB.out h1); clear h1)
      | (go_at_call 11; with_reducible refine (R1.out _ (T.out.get (A := A) (l := l) (by simp))).mono ?_; rintro e w2 ⟨rfl, h2⟩; have T := hide (T.out.then_ h2); have BB := hide (thenB BB.out h2); clear h2)
      | (go_at_call 12; with_reducible refine (R2.out _ (T.out.get (A := A) (l := l) (by simp))).mono ?_; rintro e w3 ⟨rfl, h3⟩; have T := hide (T.out.then_ h3); have BB := hide (thenB BB.out h3); clear h3)
      | (go_at_call 13; with_reducible refine (K1.out _).mono ?_; rintro e w4 ⟨rfl, h4⟩; have T := hide (T.out.then_ h4); have BB := hide (thenB BB.out h4); clear h4)
      | (go_at_call 14; with_reducible refine (K2.out _).mono ?_; rintro e w5 ⟨rfl, h5⟩; have T := hide (T.out.then_ h5); have BB := hide (thenB BB.out h5); clear h5)
      | (go_at_call 15; with_reducible refine (I1.out _ (T.out.get (A := A) (l := l) (by simp))).mono ?_; rintro e w6 ⟨A6, c6, rfl, _, _, s6, h6⟩; have T := hide (T.out.then_ h6); have BB := hide (thenB BB.out h6); clear h6; have T := hide (T.out.add (A := A6) (l := p) s6); clear s6)
      | (go_at_call 16; with_reducible refine (I2.out _ (T.out.get (A := A) (l := l) (by simp))).mono ?_; rintro e w7 ⟨A7, c7, rfl, _, _, s7, h7⟩; have T := hide (T.out.then_ h7); have BB := hide (thenB BB.out h7); clear h7; have T := hide (T.out.add (A := A7) (l := p) s7); clear s7)
      | (go_at_call 18; with_reducible refine (E1.out _ (T.out.get (A := A) (l := l) (by simp))).mono ?_; rintro e w8 ⟨A8, c8, rfl, _, _, s8, h8⟩; have T := hide (T.out.then_ h8); have BB := hide (thenB BB.out h8); clear h8; have T := hide (T.out.add (A := A8) (l := q) s8); clear s8)
      | (go_at_call 19; with_reducible refine (E2.out _ (T.out.get (A := A) (l := l) (by simp))).mono ?_; rintro e w9 ⟨A9, c9, rfl, _, _, s9, h9⟩; have T := hide (T.out.then_ h9); have BB := hide (thenB BB.out h9); clear h9; have T := hide (T.out.add (A := A9) (l := q) s9); clear s9)
      | (go_at_call 17; with_reducible refine (sameK A6 A7 c6 c7 p.length p.length p _ (T.out.get (A := A6) (l := p) (by simp)) (T.out.get (A := A7) (l := p) (by simp)) rfl rfl (by have := PL.out; omega)).mono ?_; rintro e w10 ⟨rfl, h10⟩; have T := hide (T.out.then_ h10); have BB := hide (thenB BB.out h10); clear h10)
      | (go_at_call 17; with_reducible refine (sameK A8 A9 c8 c9 q.length q.length q _ (T.out.get (A := A8) (l := q) (by simp)) (T.out.get (A := A9) (l := q) (by simp)) rfl rfl (by have := QL.out; omega)).mono ?_; rintro e w11 ⟨rfl, h11⟩; have T := hide (T.out.then_ h11); have BB := hide (thenB BB.out h11); clear h11)
      | (go_at_call 20; with_reducible refine (V1.out _ (T.out.get (A := B) (l := path) (by simp))).mono ?_; rintro e w12 ⟨rfl, h12⟩; have T := hide (T.out.then_ h12); have BB := hide (thenB BB.out h12); clear h12)
      | (go_at_call 21; with_reducible refine (V2.out _ (T.out.get (A := B) (l := path) (by simp))).mono ?_; rintro e w13 ⟨rfl, h13⟩; have T := hide (T.out.then_ h13); have BB := hide (thenB BB.out h13); clear h13)
      | (go_at_call 22; with_reducible refine (G1.out _ (T.out.get (A := B) (l := path) (by simp))).mono ?_; rintro e w14 ⟨rfl, h14⟩; have T := hide (T.out.then_ h14); have BB := hide (thenB BB.out h14); clear h14)
      | (go_at_call 23; with_reducible refine (G2.out _ (T.out.get (A := B) (l := path) (by simp))).mono ?_; rintro e w15 ⟨rfl, h15⟩; have T := hide (T.out.then_ h15); have BB := hide (thenB BB.out h15); clear h15))
    go_ret
    exact ⟨rfl, BB.out⟩
end Go.Proofs.YtijnjgjpmgmifaaDoor
