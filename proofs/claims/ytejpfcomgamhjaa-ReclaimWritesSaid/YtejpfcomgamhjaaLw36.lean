/-
  The walk of the law ReclaimWrites.
-/
import Derived.Test.YtejpfcomgamhjaaHead36
namespace Go.Proofs.Ytejpfcomgamhjaa
open Go.RowKit
set_option maxHeartbeats 4000000 in
theorem writes36_walk (A : Option Addr) (c : Nat) (l : List Ver) (h : Int) (vk vt vv : Int) (vg : Bool) (w : World) (hn : l.length ≤ 9223372036854775807) (hs : VS w A l) :
    Calls Try.prog 15 #[.slice A l.length c, .int .i64 h, .agg #[.int .i64 vk, .int .i64 vt, .int .i64 vv, .bool vg]] w fun e w' => e = .returned (.bool true) ∧ Below w.heap.size w w' := by
  have HH := hide head36_any
  have b0 : Below w.heap.size w (w.alloc (.cells #[.int .i64 vk, .int .i64 vt, .int .i64 vv, .bool vg] 40)) := (Below.refl _ _).alloc (Nat.le_refl _) _
  have T := hide (AllV.one (hs.then_ b0))
  have N := hide (VAt.new (w := w) (v := ⟨vk, vt, vv, vg⟩) (t := 40) rfl)
  have BB := hide b0
  clear b0
  have U0 := fun W (s : VS W A l) => usable36_any A c l h W hn s
  cases hu : usable36B l h
  · rw [hu] at U0
    have U1 := hide U0
    clear U0 hu
    go_enter Try.func15, Try.ntmps15
    go_wp2_with (first | (go_at_call 16; refine (HH.out _).mono ?_; rintro e w1 ⟨rfl, hb⟩; have T := hide (T.out.then_ hb); have BB := hide (thenB BB.out hb); clear hb) | (go_at_call 24; refine (U1.out _ (T.out.get (A := A) (l := l) (by simp))).mono ?_; rintro e w2 ⟨rfl, hb⟩; have T := hide (T.out.then_ hb); have BB := hide (thenB BB.out hb); clear hb))
    go_ret
    exact ⟨rfl, BB.out⟩
  · rw [hu] at U0
    have U1 := hide U0
    obtain ⟨h60, hst, he⟩ := usable36_sto hu
    clear U0 hu
    by_cases hlt : vt ≤ h
    · have d1 : decide (vt ≤ h) = true := decide_eq_true hlt
      clear hst he hlt
      go_enter Try.func15, Try.ntmps15
      go_wp2_with (first
        | (go_at_call 16; refine (HH.out _).mono ?_; rintro e w1 ⟨rfl, hb⟩; have N := hide (N.out.then_ hb); have T := hide (T.out.then_ hb); have BB := hide (thenB BB.out hb); clear hb)
        | (go_at_call 24; refine (U1.out _ (T.out.get (A := A) (l := l) (by simp))).mono ?_; rintro e w2 ⟨rfl, hb⟩; have n1 := N.out.then_ hb; unfold VAt at n1; have T := hide (T.out.then_ hb); have BB := hide (thenB BB.out hb); clear hb))
      go_ret
      exact ⟨rfl, BB.out⟩
    · have d1 : decide (vt ≤ h) = false := decide_eq_false hlt
      have P0 := fun W (s : VS W A l) => put_any A c l ⟨vk, vt, vv, vg⟩ W hn s
      obtain ⟨⟨a, pe⟩, hp⟩ : ∃ x, x = putS l ⟨vk, vt, vv, vg⟩ := ⟨_, rfl⟩
      rw [← hp] at P0
      by_cases hpe : pe = 0
      · subst hpe
        obtain ⟨hd, hsa⟩ := put_stL hst hp (Int.not_le.1 hlt)
        have hal : a.length ≤ 61 := by
          obtain ⟨_, _, _, hal, _⟩ := put_ok hst hp
          rw [hal, putL_len]; omega
        have C0 := fun B d W (s : VS W B a) => reclaim_any B d a h W (by omega) s
        rw [reclaim_ok hsa he] at C0
        have D0 := fun W (s : VS W A l) => reclaim_any A c l h W hn s
        rw [reclaim_ok hst he] at D0
        have hml := stL_len l h
        have hrl := stL_len a h
        obtain ⟨m, hm⟩ : ∃ m, m = stL l h := ⟨_, rfl⟩
        obtain ⟨r, hr⟩ : ∃ m, m = stL a h := ⟨_, rfl⟩
        rw [← hm] at D0 hd hml
        rw [← hr] at C0 hd hrl
        have F0 := fun B d W (s : VS W B m) => put_any B d m ⟨vk, vt, vv, vg⟩ W (by omega) s
        rw [hd] at F0
        have P1 := hide P0
        have C1 := hide C0
        have D1 := hide D0
        have F1 := hide F0
        unfold RetVE at P1 C1 D1 F1
        have hr60 : r.length ≤ 9223372036854775807 := by omega
        clear P0 C0 D0 F0 hm hr hd hsa hp hlt hst he
        go_enter Try.func15, Try.ntmps15
        go_wp2_with (first
          | (go_at_call 16; refine (HH.out _).mono ?_; rintro e w1 ⟨rfl, hb⟩; have N := hide (N.out.then_ hb); have T := hide (T.out.then_ hb); have BB := hide (thenB BB.out hb); clear hb)
          | (go_at_call 24; refine (U1.out _ (T.out.get (A := A) (l := l) (by simp))).mono ?_; rintro e w2 ⟨rfl, hb⟩; have N := hide (N.out.then_ hb); have n1 := N.out; unfold VAt at n1; have T := hide (T.out.then_ hb); have BB := hide (thenB BB.out hb); clear hb)
          | (go_at_call 31; with_reducible refine (P1.out _ (T.out.get (A := A) (l := l) (by simp))).mono ?_; rintro e w3 ⟨A3, c3, rfl, hl3, hm3, hs3, hb⟩; clear n1; have N := hide (N.out.then_ hb); have T := hide (T.out.then_ hb); have BB := hide (thenB BB.out hb); clear hb; have T := hide (T.out.add hs3); clear hs3)
          | (go_at_call 19; with_reducible refine (C1.out A3 c3 _ (T.out.get (A := A3) (l := a) (by simp))).mono ?_; rintro e w4 ⟨A4, c4, rfl, hl4, hm4, hs4, hb⟩; have N := hide (N.out.then_ hb); have T := hide (T.out.then_ hb); have BB := hide (thenB BB.out hb); clear hb; have T := hide (T.out.add hs4); clear hs4)
          | (go_at_call 19; with_reducible refine (D1.out _ (T.out.get (A := A) (l := l) (by simp))).mono ?_; rintro e w5 ⟨A5, c5, rfl, hl5, hm5, hs5, hb⟩; have N := hide (N.out.then_ hb); have n2 := N.out; unfold VAt at n2; have T := hide (T.out.then_ hb); have BB := hide (thenB BB.out hb); clear hb; have T := hide (T.out.add hs5); clear hs5)
          | (go_at_call 31; with_reducible refine (F1.out A5 c5 _ (T.out.get (A := A5) (l := m) (by simp))).mono ?_; rintro e w6 ⟨A6, c6, rfl, hl6, hm6, hs6, hb⟩; clear n2; have T := hide (T.out.then_ hb); have BB := hide (thenB BB.out hb); clear hb; have T := hide (T.out.add hs6); clear hs6)
          | (go_at_call 21; with_reducible refine (same_self A4 A6 c4 c6 r _ hr60 (T.out.get (A := A4) (l := r) (by simp)) (T.out.get (A := A6) (l := r) (by simp))).mono ?_; rintro e w8 ⟨rfl, hb⟩; have T := hide (T.out.then_ hb); have BB := hide (thenB BB.out hb); clear hb))
        go_ret
        exact ⟨rfl, BB.out⟩
      · have q1 : (pe != 0) = true := by simp [hpe]
        have P1 := hide P0
        unfold RetVE at P1
        clear P0 hp hpe hst he hlt
        go_enter Try.func15, Try.ntmps15
        go_wp2_with (first
          | (go_at_call 16; refine (HH.out _).mono ?_; rintro e w1 ⟨rfl, hb⟩; have N := hide (N.out.then_ hb); have T := hide (T.out.then_ hb); have BB := hide (thenB BB.out hb); clear hb)
          | (go_at_call 24; refine (U1.out _ (T.out.get (A := A) (l := l) (by simp))).mono ?_; rintro e w2 ⟨rfl, hb⟩; have n1 := N.out.then_ hb; unfold VAt at n1; have T := hide (T.out.then_ hb); have BB := hide (thenB BB.out hb); clear hb)
          | (go_at_call 31; with_reducible refine (P1.out _ (T.out.get (A := A) (l := l) (by simp))).mono ?_; rintro e w3 ⟨A3, c3, rfl, hl3, hm3, hs3, hb⟩; have T := hide (T.out.then_ hb); have BB := hide (thenB BB.out hb); clear hb))
        go_ret
        exact ⟨rfl, BB.out⟩
end Go.Proofs.Ytejpfcomgamhjaa
