/-
  versions.Read, for all arguments.
-/
import Derived.Test.YtejpfcomgamhjaaRead
namespace Go.Proofs.Ytejpfcomgamhjaa
open Go.RowKit
set_option maxHeartbeats 1000000 in
theorem read_any (A : Option Addr) (c : Nat) (l : List Ver) (t : Int) (w : World) (hn : l.length ≤ 9223372036854775807) (h : VS w A l) :
    Calls Try.prog 26 #[.slice A l.length c, .int .i64 t] w (RetVE w (readS l t)) := by
  have htB : (decide (1 ≤ t) && decide (t ≤ 3000000000000000)) = stampB t := rfl
  cases hv : validB l
  · have hp : readS l t = ([], 1) := by simp [readS, hv]
    rw [hp]
    go_enter Try.func26, Try.ntmps26
    go_wp2
    go_step3
    go_wp2_with (first | (go_at_call 27; with_reducible refine (valid_any A c l _ (by omega) h).mono ?_; rw [hv]; rintro e w1 ⟨rfl, hb⟩))
    try go_step3
    try go_wp2
    try rw [Exit.noGoto_ret]
    go_ret2
    exact RetVE.none_ hb
  · cases ht : stampB t
    · have hp : readS l t = ([], 1) := by simp [readS, ht]
      rw [hp]
      go_enter Try.func26, Try.ntmps26
      go_wp2
      go_step3
      go_wp2_with (first | (go_at_call 27; with_reducible refine (valid_any A c l _ (by omega) h).mono ?_; rw [hv]; rintro e w1 ⟨rfl, hb⟩) | (go_at_call 49; refine (isStamp_any _ _).mono ?_; rw [htB, ht]; rintro e w2 ⟨rfl, rfl⟩))
      try go_step3
      try go_wp2
      try rw [Exit.noGoto_ret]
      go_ret2
      exact RetVE.none_ hb
    · have hp : readS l t = (readL l t, 0) := by simp [readS, hv, ht]
      rw [hp]
      exact read_good A c l t w h hv ht
end Go.Proofs.Ytejpfcomgamhjaa
