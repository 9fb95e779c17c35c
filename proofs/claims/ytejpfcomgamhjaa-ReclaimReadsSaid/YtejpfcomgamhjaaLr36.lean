/-
  The walk of the law ReclaimReads.
-/
import Derived.Test.YtejpfcomgamhjaaHead36
namespace Go.Proofs.Ytejpfcomgamhjaa
open Go.RowKit
set_option maxHeartbeats 4000000 in
theorem reads36_walk (A : Option Addr) (c : Nat) (l : List Ver) (h ts : Int) (w : World) (hn : l.length ≤ 9223372036854775807) (hs : VS w A l) :
    Calls Try.prog 4 #[.slice A l.length c, .int .i64 h, .int .i64 ts] w fun e w' => e = .returned (.bool true) ∧ Below w.heap.size w w' := by
  have HH := hide head36_any
  have T := hide (AllV.one hs)
  have BB := hide (Below.refl w.heap.size w)
  have U0 := fun W (s : VS W A l) => usable36_any A c l h W hn s
  cases hu : usable36B l h
  · rw [hu] at U0
    have U1 := hide U0
    clear U0 hu
    go_enter Try.func4, Try.ntmps4
    go_wp2_with (first | (go_at_call 16; refine (HH.out _).mono ?_; rintro e w1 ⟨rfl, hb⟩; have T := hide (T.out.then_ hb); have BB := hide (thenB BB.out hb); clear hb) | (go_at_call 24; refine (U1.out _ (T.out.get (A := A) (l := l) (by simp))).mono ?_; rintro e w2 ⟨rfl, hb⟩; have T := hide (T.out.then_ hb); have BB := hide (thenB BB.out hb); clear hb))
    go_ret
    exact ⟨rfl, BB.out⟩
  · rw [hu] at U0
    have U1 := hide U0
    obtain ⟨h60, hst, he⟩ := usable36_sto hu
    clear U0 hu
    cases hts : stampB ts
    · have HTS := hide hts
      clear hts hst he
      go_enter Try.func4, Try.ntmps4
      go_wp2_with (first | (go_at_call 16; refine (HH.out _).mono ?_; rintro e w1 ⟨rfl, hb⟩; have T := hide (T.out.then_ hb); have BB := hide (thenB BB.out hb); clear hb) | (go_at_call 24; refine (U1.out _ (T.out.get (A := A) (l := l) (by simp))).mono ?_; rintro e w2 ⟨rfl, hb⟩; have T := hide (T.out.then_ hb); have BB := hide (thenB BB.out hb); clear hb) | (go_at_call 25; refine (rStamp_any _ _).mono ?_; rw [HTS.out]; rintro e w3 ⟨rfl, rfl⟩))
      go_ret
      exact ⟨rfl, BB.out⟩
    · by_cases hlt : ts < h
      · have d1 : decide (ts < h) = true := decide_eq_true hlt
        have HTS := hide hts
        clear hts hst he hlt
        go_enter Try.func4, Try.ntmps4
        go_wp2_with (first | (go_at_call 16; refine (HH.out _).mono ?_; rintro e w1 ⟨rfl, hb⟩; have T := hide (T.out.then_ hb); have BB := hide (thenB BB.out hb); clear hb) | (go_at_call 24; refine (U1.out _ (T.out.get (A := A) (l := l) (by simp))).mono ?_; rintro e w2 ⟨rfl, hb⟩; have T := hide (T.out.then_ hb); have BB := hide (thenB BB.out hb); clear hb) | (go_at_call 25; refine (rStamp_any _ _).mono ?_; rw [HTS.out]; rintro e w3 ⟨rfl, rfl⟩))
        go_ret
        exact ⟨rfl, BB.out⟩
      · have d1 : decide (ts < h) = false := decide_eq_false hlt
        have C0 := fun W (s : VS W A l) => reclaim_any A c l h W hn s
        rw [reclaim_ok hst he] at C0
        have hml := stL_len l h
        have hv1 := (sto_iff _).2 (sto_stL hst h)
        have hrr := readRS_ok (sto_stL hst h) he hts (Int.not_lt.1 hlt)
        rw [readL_stL hst (Int.not_lt.1 hlt)] at hrr
        have R0 := fun W (s : VS W A l) => read_any A c l ts W hn s
        rw [readS_ok hst hts] at R0
        obtain ⟨m, hm⟩ : ∃ m, m = stL l h := ⟨_, rfl⟩
        rw [← hm] at C0 hml hv1 hrr
        have Q0 := fun B d W (s : VS W B m) => readR_any B d m h ts W (by omega) s
        rw [hrr] at Q0
        have V0 := fun B d W (s : VS W B m) => valid_any B d m W (by omega) s
        rw [hv1] at V0
        obtain ⟨rl, hrl⟩ : ∃ rl, rl = readL l ts := ⟨_, rfl⟩
        rw [← hrl] at R0 Q0
        have d2 : decide ((m.length : Int) ≤ (l.length : Int)) = true := by simp; omega
        have C1 := hide C0
        have R1 := hide R0
        have Q1 := hide Q0
        have V1 := hide V0
        unfold RetVE at C1 R1 Q1
        have HTS := hide hts
        clear hts hst he hlt C0 R0 Q0 V0 hrl hm hrr hv1
        go_enter Try.func4, Try.ntmps4
        go_wp2_with (first
          | (go_at_call 16; refine (HH.out _).mono ?_; rintro e w1 ⟨rfl, hb⟩; have T := hide (T.out.then_ hb); have BB := hide (thenB BB.out hb); clear hb) | (go_at_call 24; refine (U1.out _ (T.out.get (A := A) (l := l) (by simp))).mono ?_; rintro e w2 ⟨rfl, hb⟩; have T := hide (T.out.then_ hb); have BB := hide (thenB BB.out hb); clear hb) | (go_at_call 25; refine (rStamp_any _ _).mono ?_; rw [HTS.out]; rintro e w3 ⟨rfl, rfl⟩) | (go_at_call 19; with_reducible refine (C1.out _ (T.out.get (A := A) (l := l) (by simp))).mono ?_; rintro e w4 ⟨A4, c4, rfl, hl4, hm4, hs4, hb⟩; have T := hide (T.out.then_ hb); have BB := hide (thenB BB.out hb); clear hb; have T := hide (T.out.add hs4); clear hs4)
          | (go_at_call 22; with_reducible refine (Q1.out A4 c4 _ (T.out.get (A := A4) (l := m) (by simp))).mono ?_; rintro e w5 ⟨A5, c5, rfl, hl5, hm5, hs5, hb⟩; have L5 := hide (Nat.le_trans hl5 hm5); have T := hide (T.out.then_ hb); have BB := hide (thenB BB.out hb); clear hb; have T := hide (T.out.add hs5); clear hs5)
          | (go_at_call 26; with_reducible refine (R1.out _ (T.out.get (A := A) (l := l) (by simp))).mono ?_; rintro e w6 ⟨A6, c6, rfl, hl6, hm6, hs6, hb⟩; have T := hide (T.out.then_ hb); have BB := hide (thenB BB.out hb); clear hb; have T := hide (T.out.add hs6); clear hs6)
          | (go_at_call 21; refine (same_self A5 A6 c5 c6 rl _ L5.out (T.out.get (A := A5) (l := rl) (by simp)) (T.out.get (A := A6) (l := rl) (by simp))).mono ?_; rintro e w7 ⟨rfl, hb⟩; have T := hide (T.out.then_ hb); have BB := hide (thenB BB.out hb); clear hb)
          | (go_at_call 27; with_reducible refine (V1.out A4 c4 _ (T.out.get (A := A4) (l := m) (by simp))).mono ?_; rintro e w8 ⟨rfl, hb⟩; have T := hide (T.out.then_ hb); have BB := hide (thenB BB.out hb); clear hb))
        go_ret
        exact ⟨rfl, BB.out⟩
end Go.Proofs.Ytejpfcomgamhjaa
