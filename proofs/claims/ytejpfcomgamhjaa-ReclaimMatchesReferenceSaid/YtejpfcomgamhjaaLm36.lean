/-
  The walk of the law ReclaimMatchesReference.
-/
import Derived.Test.YtejpfcomgamhjaaHead36
namespace Go.Proofs.Ytejpfcomgamhjaa
open Go.RowKit
set_option maxHeartbeats 4000000 in
theorem matches36_walk (A : Option Addr) (c : Nat) (l : List Ver) (B : Option Addr) (d : Nat) (rs : List Int) (last h ts : Int) (w : World) (hn : l.length ≤ 9223372036854775807) (hn2 : rs.length ≤ 9223372036854775807) (hs : VS w A l) (his : IS w B rs) :
    Calls Try.prog 3 #[.slice A l.length c, .slice B rs.length d, .int .i64 last, .int .i64 h, .int .i64 ts] w fun e w' => e = .returned (.bool true) ∧ Below w.heap.size w w' := by
  have HH := hide head36_any
  have T := hide (AllV.one hs)
  have TI := hide his
  have BB := hide (Below.refl w.heap.size w)
  have hcase : (decide (60 < (l.length : Int)) = true ∧ decide ((l.length : Int) ≤ 4000) = true) ∨ (decide (60 < (l.length : Int)) = false ∧ decide (100 < (rs.length : Int)) = true) ∨ (decide (60 < (l.length : Int)) = true ∧ decide ((l.length : Int) ≤ 4000) = false ∧ decide (100 < (rs.length : Int)) = true) ∨
      (decide (60 < (l.length : Int)) = false ∧ decide (100 < (rs.length : Int)) = false) ∨ (decide (60 < (l.length : Int)) = true ∧ decide ((l.length : Int) ≤ 4000) = false ∧ decide (100 < (rs.length : Int)) = false) := by
    simp only [decide_eq_true_eq, decide_eq_false_iff_not]; omega
  have H0 := fun W s => horizon_any B d rs last W hn2 s
  have K0 := fun W s => rHorizon_any B d rs last W hn2 s
  obtain ⟨⟨n, f⟩, hnf⟩ : ∃ x, x = horS rs last := ⟨_, rfl⟩
  rw [← hnf] at H0 K0
  have C0 := fun W (s : VS W A l) => reclaim_any A c l h W hn s
  have D0 := fun W (s : VS W A l) => rReclaim_any A c l h W hn s
  rw [reclaim_eq] at D0
  obtain ⟨⟨a, ae⟩, hae⟩ : ∃ x, x = reclaimS l h := ⟨_, rfl⟩
  rw [← hae] at C0 D0
  have R0 := fun W (s : VS W A l) => readR_any A c l h ts W hn s
  have Q0 := fun W (s : VS W A l) => rReadR_any A c l h ts W hn s
  rw [readR_eq] at Q0
  obtain ⟨⟨rl, re⟩, hre⟩ : ∃ x, x = readRS l h ts := ⟨_, rfl⟩
  rw [← hre] at R0 Q0
  have H1 := hide H0
  have K1 := hide K0
  have C1 := hide C0
  have D1 := hide D0
  have R1 := hide R0
  have Q1 := hide Q0
  unfold RetVE at C1 D1 R1 Q1
  clear H0 K0 C0 D0 R0 Q0 hnf hae hre
  have e1 : (n == n) = true := by simp
  have e2 : (f == f) = true := by simp
  have e3 : (ae == ae) = true := by simp
  have e4 : (re == re) = true := by simp
  rcases hcase with ⟨q1, q2⟩ | ⟨q1, q3⟩ | ⟨q1, q2, q3⟩ | ⟨q1, q3⟩ | ⟨q1, q2, q3⟩
  all_goals
    go_enter Try.func3, Try.ntmps3
    go_wp2_with (first
      | (go_at_call 16; refine (HH.out _).mono ?_; rintro e w1 ⟨rfl, hb⟩; have TI := hide (TI.out.then_ hb); have T := hide (T.out.then_ hb); have BB := hide (thenB BB.out hb); clear hb)
      | (go_at_call 17; with_reducible refine (H1.out _ TI.out).mono ?_; rintro e w2 ⟨rfl, hb⟩; have TI := hide (TI.out.then_ hb); have T := hide (T.out.then_ hb); have BB := hide (thenB BB.out hb); clear hb)
      | (go_at_call 18; with_reducible refine (K1.out _ TI.out).mono ?_; rintro e w3 ⟨rfl, rfl⟩)
      | (go_at_call 19; with_reducible refine (C1.out _ (T.out.get (A := A) (l := l) (by simp))).mono ?_; rintro e w4 ⟨A4, c4, rfl, hl4, hm4, hs4, hb⟩; have L4 := hide (Nat.le_trans hl4 hm4); have T := hide (T.out.then_ hb); have BB := hide (thenB BB.out hb); clear hb; have T := hide (T.out.add hs4); clear hs4)
      | (go_at_call 20; with_reducible refine (D1.out _ (T.out.get (A := A) (l := l) (by simp))).mono ?_; rintro e w5 ⟨A5, c5, rfl, hl5, hm5, hs5, hb⟩; have T := hide (T.out.then_ hb); have BB := hide (thenB BB.out hb); clear hb; have T := hide (T.out.add hs5); clear hs5)
      | (go_at_call 22; with_reducible refine (R1.out _ (T.out.get (A := A) (l := l) (by simp))).mono ?_; rintro e w6 ⟨A6, c6, rfl, hl6, hm6, hs6, hb⟩; have L6 := hide (Nat.le_trans hl6 hm6); have T := hide (T.out.then_ hb); have BB := hide (thenB BB.out hb); clear hb; have T := hide (T.out.add hs6); clear hs6)
      | (go_at_call 23; with_reducible refine (Q1.out _ (T.out.get (A := A) (l := l) (by simp))).mono ?_; rintro e w7 ⟨A7, c7, rfl, hl7, hm7, hs7, hb⟩; have T := hide (T.out.then_ hb); have BB := hide (thenB BB.out hb); clear hb; have T := hide (T.out.add hs7); clear hs7)
      | (go_at_call 21; refine (same_self A6 A7 c6 c7 rl _ L6.out (T.out.get (A := A6) (l := rl) (by simp)) (T.out.get (A := A7) (l := rl) (by simp))).mono ?_; rintro e w9 ⟨rfl, hb⟩; have T := hide (T.out.then_ hb); have BB := hide (thenB BB.out hb); clear hb)
      | (go_at_call 21; refine (same_self A4 A5 c4 c5 a _ L4.out (T.out.get (A := A4) (l := a) (by simp)) (T.out.get (A := A5) (l := a) (by simp))).mono ?_; rintro e w8 ⟨rfl, hb⟩; have T := hide (T.out.then_ hb); have BB := hide (thenB BB.out hb); clear hb))
    go_ret
    exact ⟨rfl, BB.out⟩
end Go.Proofs.Ytejpfcomgamhjaa
