/-
  The walk of the law ReclaimAgain.
-/
import Derived.Test.YtejpfcomgamhjaaHead36
namespace Go.Proofs.Ytejpfcomgamhjaa
open Go.RowKit
set_option maxHeartbeats 4000000 in
theorem again36_walk (A : Option Addr) (c : Nat) (l : List Ver) (one two : Int) (w : World) (hn : l.length ≤ 9223372036854775807) (hs : VS w A l) :
    Calls Try.prog 5 #[.slice A l.length c, .int .i64 one, .int .i64 two] w fun e w' => e = .returned (.bool true) ∧ Below w.heap.size w w' := by
  have HH := hide head36_any
  have T := hide (AllV.one hs)
  have BB := hide (Below.refl w.heap.size w)
  have U0 := fun W (s : VS W A l) => usable36_any A c l one W hn s
  cases hu : usable36B l one
  · rw [hu] at U0
    have U1 := hide U0
    clear U0 hu
    go_enter Try.func5, Try.ntmps5
    go_wp2_with (first | (go_at_call 16; refine (HH.out _).mono ?_; rintro e w1 ⟨rfl, hb⟩; have T := hide (T.out.then_ hb); have BB := hide (thenB BB.out hb); clear hb) | (go_at_call 24; refine (U1.out _ (T.out.get (A := A) (l := l) (by simp))).mono ?_; rintro e w2 ⟨rfl, hb⟩; have T := hide (T.out.then_ hb); have BB := hide (thenB BB.out hb); clear hb))
    go_ret
    exact ⟨rfl, BB.out⟩
  · rw [hu] at U0
    have U1 := hide U0
    obtain ⟨h60, hst, he⟩ := usable36_sto hu
    clear U0 hu
    have E0 := fun W => rEdge_any two W
    cases h2 : edgeB two
    · rw [h2] at E0
      have E1 := hide E0
      clear E0 h2 he hst
      go_enter Try.func5, Try.ntmps5
      go_wp2_with (first | (go_at_call 16; refine (HH.out _).mono ?_; rintro e w1 ⟨rfl, hb⟩; have T := hide (T.out.then_ hb); have BB := hide (thenB BB.out hb); clear hb) | (go_at_call 24; refine (U1.out _ (T.out.get (A := A) (l := l) (by simp))).mono ?_; rintro e w2 ⟨rfl, hb⟩; have T := hide (T.out.then_ hb); have BB := hide (thenB BB.out hb); clear hb) | (go_at_call 28; refine (E1.out _).mono ?_; rintro e w3 ⟨rfl, rfl⟩))
      go_ret
      exact ⟨rfl, BB.out⟩
    · rw [h2] at E0
      have E1 := hide E0
      clear E0
      rcases Int.lt_trichotomy one two with hlt | hlt | hlt
      · have n1 : (two < one) = False := by simp; omega
        have n2 : (one < two) = True := by simp; omega
        have hlo := he
        have hhi := h2
        have hle : one ≤ two := by omega
        have C0 := fun W (s : VS W A l) => reclaim_any A c l one W hn s
        rw [reclaim_ok hst hlo] at C0
        have D0 := fun W (s : VS W A l) => reclaim_any A c l two W hn s
        rw [reclaim_ok hst hhi] at D0
        have ha := reclaim_ok (sto_stL hst one) hhi
        have hc := reclaim_ok (sto_stL hst two) hhi
        rw [stL_again hst hle] at ha
        rw [stL_again hst (Int.le_refl _)] at hc
        have hal := stL_len l one
        have hml := stL_len l two
        obtain ⟨a, hha⟩ : ∃ m, m = stL l one := ⟨_, rfl⟩
        obtain ⟨m, hm⟩ : ∃ m, m = stL l two := ⟨_, rfl⟩
        rw [← hha] at C0 ha hal
        rw [← hm] at D0 ha hc hml
        have F0 := fun B d W (s : VS W B a) => reclaim_any B d a two W (by omega) s
        have G0 := fun B d W (s : VS W B m) => reclaim_any B d m two W (by omega) s
        rw [ha] at F0
        rw [hc] at G0
        have C1 := hide C0
        have D1 := hide D0
        have F1 := hide F0
        have G1 := hide G0
        unfold RetVE at C1 D1 F1 G1
        have hm60 : m.length ≤ 9223372036854775807 := by omega
        clear hlt C0 D0 F0 G0 hha hm ha hc hlo hhi hle hst he h2
        go_enter Try.func5, Try.ntmps5
        go_wp2_with (first
          | (go_at_call 16; refine (HH.out _).mono ?_; rintro e w1 ⟨rfl, hb⟩; have T := hide (T.out.then_ hb); have BB := hide (thenB BB.out hb); clear hb) | (go_at_call 24; refine (U1.out _ (T.out.get (A := A) (l := l) (by simp))).mono ?_; rintro e w2 ⟨rfl, hb⟩; have T := hide (T.out.then_ hb); have BB := hide (thenB BB.out hb); clear hb) | (go_at_call 28; refine (E1.out _).mono ?_; rintro e w3 ⟨rfl, rfl⟩)
          | (go_at_call 19; with_reducible refine (C1.out _ (T.out.get (A := A) (l := l) (by simp))).mono ?_; rintro e w4 ⟨A4, c4, rfl, hl4, hm4, hs4, hb⟩; have T := hide (T.out.then_ hb); have BB := hide (thenB BB.out hb); clear hb; have T := hide (T.out.add hs4); clear hs4)
          | (go_at_call 19; with_reducible refine (F1.out A4 c4 _ (T.out.get (A := A4) (l := a) (by simp))).mono ?_; rintro e w5 ⟨A5, c5, rfl, hl5, hm5, hs5, hb⟩; have T := hide (T.out.then_ hb); have BB := hide (thenB BB.out hb); clear hb; have T := hide (T.out.add hs5); clear hs5)
          | (go_at_call 19; with_reducible refine (D1.out _ (T.out.get (A := A) (l := l) (by simp))).mono ?_; rintro e w6 ⟨A6, c6, rfl, hl6, hm6, hs6, hb⟩; have T := hide (T.out.then_ hb); have BB := hide (thenB BB.out hb); clear hb; have T := hide (T.out.add hs6); clear hs6)
          | (go_at_call 19; with_reducible refine (G1.out A6 c6 _ (T.out.get (A := A6) (l := m) (by simp))).mono ?_; rintro e w7 ⟨A7, c7, rfl, hl7, hm7, hs7, hb⟩; have T := hide (T.out.then_ hb); have BB := hide (thenB BB.out hb); clear hb; have T := hide (T.out.add hs7); clear hs7)
          | (go_at_call 21; with_reducible refine (same_self A5 A6 c5 c6 m _ hm60 (T.out.get (A := A5) (l := m) (by simp)) (T.out.get (A := A6) (l := m) (by simp))).mono ?_; rintro e w8 ⟨rfl, hb⟩; have T := hide (T.out.then_ hb); have BB := hide (thenB BB.out hb); clear hb)
          | (go_at_call 21; with_reducible refine (same_self A6 A7 c6 c7 m _ hm60 (T.out.get (A := A6) (l := m) (by simp)) (T.out.get (A := A7) (l := m) (by simp))).mono ?_; rintro e w9 ⟨rfl, hb⟩; have T := hide (T.out.then_ hb); have BB := hide (thenB BB.out hb); clear hb))
        go_ret
        exact ⟨rfl, BB.out⟩
      · subst hlt
        have hlo := he
        have hhi := he
        have hle : one ≤ one := Int.le_refl _
        have C0 := fun W (s : VS W A l) => reclaim_any A c l one W hn s
        rw [reclaim_ok hst hlo] at C0
        have D0 := fun W (s : VS W A l) => reclaim_any A c l one W hn s
        rw [reclaim_ok hst hhi] at D0
        have ha := reclaim_ok (sto_stL hst one) hhi
        have hc := reclaim_ok (sto_stL hst one) hhi
        rw [stL_again hst hle] at ha
        rw [stL_again hst (Int.le_refl _)] at hc
        have hal := stL_len l one
        have hml := stL_len l one
        obtain ⟨m, hm⟩ : ∃ m, m = stL l one := ⟨_, rfl⟩
        rw [← hm] at C0 D0 ha hc hml hal
        have F0 := fun B d W (s : VS W B m) => reclaim_any B d m one W (by omega) s
        have G0 := fun B d W (s : VS W B m) => reclaim_any B d m one W (by omega) s
        rw [ha] at F0
        rw [hc] at G0
        have C1 := hide C0
        have D1 := hide D0
        have F1 := hide F0
        have G1 := hide G0
        unfold RetVE at C1 D1 F1 G1
        have hm60 : m.length ≤ 9223372036854775807 := by omega
        clear C0 D0 F0 G0 hm ha hc hlo hhi hle hst he h2
        go_enter Try.func5, Try.ntmps5
        go_wp2_with (first
          | (go_at_call 16; refine (HH.out _).mono ?_; rintro e w1 ⟨rfl, hb⟩; have T := hide (T.out.then_ hb); have BB := hide (thenB BB.out hb); clear hb) | (go_at_call 24; refine (U1.out _ (T.out.get (A := A) (l := l) (by simp))).mono ?_; rintro e w2 ⟨rfl, hb⟩; have T := hide (T.out.then_ hb); have BB := hide (thenB BB.out hb); clear hb) | (go_at_call 28; refine (E1.out _).mono ?_; rintro e w3 ⟨rfl, rfl⟩)
          | (go_at_call 19; have q5 := c5; clear q5; with_reducible refine (D1.out _ (T.out.get (A := A) (l := l) (by simp))).mono ?_; rintro e w6 ⟨A6, c6, rfl, hl6, hm6, hs6, hb⟩; have T := hide (T.out.then_ hb); have BB := hide (thenB BB.out hb); clear hb; have T := hide (T.out.add hs6); clear hs6)
          | (go_at_call 19; with_reducible refine (C1.out _ (T.out.get (A := A) (l := l) (by simp))).mono ?_; rintro e w4 ⟨A4, c4, rfl, hl4, hm4, hs4, hb⟩; have T := hide (T.out.then_ hb); have BB := hide (thenB BB.out hb); clear hb; have T := hide (T.out.add hs4); clear hs4)
          | (go_at_call 19; with_reducible refine (F1.out A4 c4 _ (T.out.get (A := A4) (l := m) (by simp))).mono ?_; rintro e w5 ⟨A5, c5, rfl, hl5, hm5, hs5, hb⟩; have T := hide (T.out.then_ hb); have BB := hide (thenB BB.out hb); clear hb; have T := hide (T.out.add hs5); clear hs5)
          | (go_at_call 19; with_reducible refine (G1.out A6 c6 _ (T.out.get (A := A6) (l := m) (by simp))).mono ?_; rintro e w7 ⟨A7, c7, rfl, hl7, hm7, hs7, hb⟩; have T := hide (T.out.then_ hb); have BB := hide (thenB BB.out hb); clear hb; have T := hide (T.out.add hs7); clear hs7)
          | (go_at_call 21; with_reducible refine (same_self A5 A6 c5 c6 m _ hm60 (T.out.get (A := A5) (l := m) (by simp)) (T.out.get (A := A6) (l := m) (by simp))).mono ?_; rintro e w8 ⟨rfl, hb⟩; have T := hide (T.out.then_ hb); have BB := hide (thenB BB.out hb); clear hb)
          | (go_at_call 21; with_reducible refine (same_self A6 A7 c6 c7 m _ hm60 (T.out.get (A := A6) (l := m) (by simp)) (T.out.get (A := A7) (l := m) (by simp))).mono ?_; rintro e w9 ⟨rfl, hb⟩; have T := hide (T.out.then_ hb); have BB := hide (thenB BB.out hb); clear hb))
        go_ret
        exact ⟨rfl, BB.out⟩
      · have n1 : (two < one) = True := by simp; omega
        have n2 : (one < two) = False := by simp; omega
        have hlo := h2
        have hhi := he
        have hle : two ≤ one := by omega
        have C0 := fun W (s : VS W A l) => reclaim_any A c l two W hn s
        rw [reclaim_ok hst hlo] at C0
        have D0 := fun W (s : VS W A l) => reclaim_any A c l one W hn s
        rw [reclaim_ok hst hhi] at D0
        have ha := reclaim_ok (sto_stL hst two) hhi
        have hc := reclaim_ok (sto_stL hst one) hhi
        rw [stL_again hst hle] at ha
        rw [stL_again hst (Int.le_refl _)] at hc
        have hal := stL_len l two
        have hml := stL_len l one
        obtain ⟨a, hha⟩ : ∃ m, m = stL l two := ⟨_, rfl⟩
        obtain ⟨m, hm⟩ : ∃ m, m = stL l one := ⟨_, rfl⟩
        rw [← hha] at C0 ha hal
        rw [← hm] at D0 ha hc hml
        have F0 := fun B d W (s : VS W B a) => reclaim_any B d a one W (by omega) s
        have G0 := fun B d W (s : VS W B m) => reclaim_any B d m one W (by omega) s
        rw [ha] at F0
        rw [hc] at G0
        have C1 := hide C0
        have D1 := hide D0
        have F1 := hide F0
        have G1 := hide G0
        unfold RetVE at C1 D1 F1 G1
        have hm60 : m.length ≤ 9223372036854775807 := by omega
        clear hlt C0 D0 F0 G0 hha hm ha hc hlo hhi hle hst he h2
        go_enter Try.func5, Try.ntmps5
        go_wp2_with (first
          | (go_at_call 16; refine (HH.out _).mono ?_; rintro e w1 ⟨rfl, hb⟩; have T := hide (T.out.then_ hb); have BB := hide (thenB BB.out hb); clear hb) | (go_at_call 24; refine (U1.out _ (T.out.get (A := A) (l := l) (by simp))).mono ?_; rintro e w2 ⟨rfl, hb⟩; have T := hide (T.out.then_ hb); have BB := hide (thenB BB.out hb); clear hb) | (go_at_call 28; refine (E1.out _).mono ?_; rintro e w3 ⟨rfl, rfl⟩)
          | (go_at_call 19; with_reducible refine (C1.out _ (T.out.get (A := A) (l := l) (by simp))).mono ?_; rintro e w4 ⟨A4, c4, rfl, hl4, hm4, hs4, hb⟩; have T := hide (T.out.then_ hb); have BB := hide (thenB BB.out hb); clear hb; have T := hide (T.out.add hs4); clear hs4)
          | (go_at_call 19; with_reducible refine (F1.out A4 c4 _ (T.out.get (A := A4) (l := a) (by simp))).mono ?_; rintro e w5 ⟨A5, c5, rfl, hl5, hm5, hs5, hb⟩; have T := hide (T.out.then_ hb); have BB := hide (thenB BB.out hb); clear hb; have T := hide (T.out.add hs5); clear hs5)
          | (go_at_call 19; with_reducible refine (D1.out _ (T.out.get (A := A) (l := l) (by simp))).mono ?_; rintro e w6 ⟨A6, c6, rfl, hl6, hm6, hs6, hb⟩; have T := hide (T.out.then_ hb); have BB := hide (thenB BB.out hb); clear hb; have T := hide (T.out.add hs6); clear hs6)
          | (go_at_call 19; with_reducible refine (G1.out A6 c6 _ (T.out.get (A := A6) (l := m) (by simp))).mono ?_; rintro e w7 ⟨A7, c7, rfl, hl7, hm7, hs7, hb⟩; have T := hide (T.out.then_ hb); have BB := hide (thenB BB.out hb); clear hb; have T := hide (T.out.add hs7); clear hs7)
          | (go_at_call 21; with_reducible refine (same_self A5 A6 c5 c6 m _ hm60 (T.out.get (A := A5) (l := m) (by simp)) (T.out.get (A := A6) (l := m) (by simp))).mono ?_; rintro e w8 ⟨rfl, hb⟩; have T := hide (T.out.then_ hb); have BB := hide (thenB BB.out hb); clear hb)
          | (go_at_call 21; with_reducible refine (same_self A6 A7 c6 c7 m _ hm60 (T.out.get (A := A6) (l := m) (by simp)) (T.out.get (A := A7) (l := m) (by simp))).mono ?_; rintro e w9 ⟨rfl, hb⟩; have T := hide (T.out.then_ hb); have BB := hide (thenB BB.out hb); clear hb))
        go_ret
        exact ⟨rfl, BB.out⟩
end Go.Proofs.Ytejpfcomgamhjaa
