/-
  The walks of the laws' own functions of layer 36: usable, head.
-/
import Derived.Test.YtejpfcomgamhjaaHz36
import Derived.Test.YtejpfcomgamhjaaPl36b
import Derived.Test.YtejpfcomgamhjaaLm33
namespace Go.Proofs.Ytejpfcomgamhjaa
open Go.RowKit
/-- slices that read as stores -/
def AllV (w : World) (ps : List (Option Addr × List Ver)) : Prop := ∀ p ∈ ps, VS w p.1 p.2
theorem AllV.then_ {w w' : World} {ps : List (Option Addr × List Ver)} (h : AllV w ps) (hb : Below w.heap.size w w') : AllV w' ps := fun p hp => (h p hp).then_ hb
theorem AllV.add {w : World} {ps : List (Option Addr × List Ver)} (h : AllV w ps) {A : Option Addr} {l : List Ver} (hv : VS w A l) : AllV w ((A, l) :: ps) := fun p hp => by
  rcases List.mem_cons.1 hp with rfl | hp
  · exact hv
  · exact h p hp
theorem AllV.one {w : World} {A : Option Addr} {l : List Ver} (hv : VS w A l) : AllV w [(A, l)] := fun p hp => by
  obtain rfl := List.mem_singleton.1 hp
  exact hv
theorem AllV.get {w : World} {ps : List (Option Addr × List Ver)} (h : AllV w ps) {A : Option Addr} {l : List Ver} (hp : (A, l) ∈ ps) : VS w A l := h _ hp
def usable36B (l : List Ver) (h : Int) : Bool := decide (l.length ≤ 60) && validB l && edgeB h
theorem usable36_any (A : Option Addr) (c : Nat) (l : List Ver) (h : Int) (w : World) (hn : l.length ≤ 9223372036854775807) (hs : VS w A l) :
    Calls Try.prog 24 #[.slice A l.length c, .int .i64 h] w fun e w' => e = .returned (.bool (usable36B l h)) ∧ Below w.heap.size w w' := by
  by_cases hl : l.length ≤ 60
  · have hl2 : decide ((l.length : Int) ≤ 60) = true := by simp; omega
    have hp : usable36B l h = (validB l && edgeB h) := by simp [usable36B, hl]
    rw [hp]
    have hv := rValid_any A c l w hn hs
    have he := hide fun w => rEdge_any h w
    clear hl hp
    cases h1 : validB l
    all_goals
      rw [h1] at hv
      go_enter Try.func24, Try.ntmps24
      go_wp2_with (first | (go_at_call 33; with_reducible refine hv.mono ?_; rintro e w1 ⟨rfl, hb⟩) | (go_at_call 28; refine (he.out _).mono ?_; rintro e w2 ⟨rfl, rfl⟩))
      go_ret
      exact ⟨by simp, hb⟩
  · have hl2 : decide ((l.length : Int) ≤ 60) = false := by simp; omega
    have hp : usable36B l h = false := by simp [usable36B, hl]
    rw [hp]
    clear hl
    go_enter Try.func24, Try.ntmps24
    go_wp2
    go_ret
    exact ⟨rfl, Below.refl _ _⟩
theorem usable36_sto {l : List Ver} {h : Int} (hu : usable36B l h = true) : l.length ≤ 60 ∧ Sto l ∧ edgeB h = true := by
  unfold usable36B at hu
  rw [Bool.and_eq_true, Bool.and_eq_true, decide_eq_true_eq] at hu
  exact ⟨hu.1.1, (sto_iff l).1 hu.1.2, hu.2⟩
abbrev hl36 : List Ver := [⟨5, 10, 7, false⟩, ⟨5, 20, 0, true⟩, ⟨5, 30, 8, false⟩]
abbrev hl36c : List Ver := [⟨5, 30, 8, false⟩]
section
variable (A : Option Addr) (w : World)
theorem h36_c15 (h : VS w A hl36) : Calls Try.prog 19 #[.slice A 3 3, .int .i64 15] w (RetVE w (hl36, 0)) := by
  have := reclaim_any A 3 hl36 15 w (by decide) h
  rw [show reclaimS hl36 15 = (hl36, 0) from by decide] at this
  exact this
theorem h36_c20 (h : VS w A hl36) : Calls Try.prog 19 #[.slice A 3 3, .int .i64 20] w (RetVE w (hl36c, 0)) := by
  have := reclaim_any A 3 hl36 20 w (by decide) h
  rw [show reclaimS hl36 20 = (hl36c, 0) from by decide] at this
  exact this
theorem h36_c30 (h : VS w A hl36) : Calls Try.prog 19 #[.slice A 3 3, .int .i64 30] w (RetVE w (hl36c, 0)) := by
  have := reclaim_any A 3 hl36 30 w (by decide) h
  rw [show reclaimS hl36 30 = (hl36c, 0) from by decide] at this
  exact this
theorem h36_h (h : IS w A [40, 12]) : Calls Try.prog 17 #[.slice A 2 2, .int .i64 35] w fun e w' => e = .returned (.tuple #[.int .i64 12, .int .i64 0]) ∧ Below w.heap.size w w' := by
  have := horizon_any A 2 [40, 12] 35 w (by decide) h
  rw [show horS [40, 12] 35 = (12, 0) from by decide] at this
  exact this
theorem h36_hn : Calls Try.prog 17 #[.slice (some ⟨w.heap.size, 0, none⟩) 2 2, .int .i64 35] (w.alloc (.cells #[.int .i64 40, .int .i64 12] 3)) fun e w' => e = .returned (.tuple #[.int .i64 12, .int .i64 0]) ∧ Below w.heap.size w w' :=
  (h36_h _ _ (Rd.new_row w 3 #[.int .i64 40, .int .i64 12])).mono fun _ _ h => ⟨h.1, ((Below.refl w.heap.size w).alloc (Nat.le_refl _) _).trans (h.2.mono (by simp))⟩
theorem h36_r30 (c : Nat) (h : VS w A hl36c) : Calls Try.prog 22 #[.slice A 1 c, .int .i64 20, .int .i64 30] w (RetVE w (hl36c, 0)) := by
  have := readR_any A c hl36c 20 30 w (by decide) h
  rw [show readRS hl36c 20 30 = (hl36c, 0) from by decide] at this
  exact this
theorem h36_r19 (c : Nat) (h : VS w A hl36c) : Calls Try.prog 22 #[.slice A 1 c, .int .i64 20, .int .i64 19] w (RetVE w ([], 64)) := by
  have := readR_any A c hl36c 20 19 w (by decide) h
  rw [show readRS hl36c 20 19 = ([], 64) from by decide] at this
  exact this
end
set_option maxHeartbeats 4000000 in
theorem head36_any (w : World) : Calls Try.prog 16 #[] w fun e w' => e = .returned (.bool true) ∧ Below w.heap.size w w' := by
  have b0 := (Below.refl w.heap.size w).alloc (Nat.le_refl _) (.cells #[.int .i64 5, .int .i64 10, .int .i64 7, .bool false, .int .i64 5, .int .i64 20, .int .i64 0, .bool true, .int .i64 5, .int .i64 30, .int .i64 8, .bool false] 40)
  have t0 : AllV (w.alloc (.cells #[.int .i64 5, .int .i64 10, .int .i64 7, .bool false, .int .i64 5, .int .i64 20, .int .i64 0, .bool true, .int .i64 5, .int .i64 30, .int .i64 8, .bool false] 40)) [(some ⟨w.heap.size, 0, none⟩, hl36)] := AllV.one (Rd.new_row w 40 (hl36.flatMap Ver.cells).toArray)
  have T := hide t0
  have BB := hide b0
  clear b0 t0
  go_enter Try.func16, Try.ntmps16
  go_wp2_with (first
    | (go_at_call 19; with_reducible refine (h36_c15 _ _ (T.out.get (A := some ⟨w.heap.size, 0, none⟩) (l := hl36) (by simp))).mono ?_; unfold RetVE; dsimp only [List.length, hl36]; rintro e w2 ⟨A2, c2, rfl, _, _, hs2, hb2⟩; have T := hide (T.out.then_ hb2); have BB := hide (thenB BB.out hb2); clear hb2; have T := hide (T.out.add (A := A2) (l := hl36) hs2); clear hs2)
    | (go_at_call 19; with_reducible refine (h36_c20 _ _ (T.out.get (A := some ⟨w.heap.size, 0, none⟩) (l := hl36) (by simp))).mono ?_; unfold RetVE; dsimp only [List.length, hl36c]; rintro e w3 ⟨A3, c3, rfl, _, _, hs3, hb3⟩; have T := hide (T.out.then_ hb3); have BB := hide (thenB BB.out hb3); clear hb3; have T := hide (T.out.add (A := A3) (l := hl36c) hs3); clear hs3)
    | (go_at_call 19; with_reducible refine (h36_c30 _ _ (T.out.get (A := some ⟨w.heap.size, 0, none⟩) (l := hl36) (by simp))).mono ?_; unfold RetVE; dsimp only [List.length, hl36c]; rintro e w4 ⟨A4, c4, rfl, _, _, hs4, hb4⟩; have T := hide (T.out.then_ hb4); have BB := hide (thenB BB.out hb4); clear hb4; have T := hide (T.out.add (A := A4) (l := hl36c) hs4); clear hs4)
    | (go_at_call 17; with_reducible refine (h36_hn _).mono ?_; rintro e w5 ⟨rfl, hb5⟩; have T := hide (T.out.then_ hb5); have BB := hide (thenB BB.out hb5); clear hb5)
    | (go_at_call 22; with_reducible refine (h36_r30 _ _ _ (T.out.get (A := A3) (l := hl36c) (by simp))).mono ?_; unfold RetVE; dsimp only [List.length, hl36c]; rintro e w6 ⟨A6, c6, rfl, _, _, hs6, hb6⟩; have T := hide (T.out.then_ hb6); have BB := hide (thenB BB.out hb6); clear hb6; have T := hide (T.out.add (A := A6) (l := hl36c) hs6); clear hs6)
    | (go_at_call 22; with_reducible refine (h36_r19 _ _ _ (T.out.get (A := A3) (l := hl36c) (by simp))).mono ?_; unfold RetVE; dsimp only [List.length, hl36c]; rintro e w7 ⟨A7, c7, rfl, _, _, hs7, hb7⟩; have T := hide (T.out.then_ hb7); have BB := hide (thenB BB.out hb7); clear hb7; clear hs7)
    | (go_at_call 21; with_reducible refine (h33_s A2 (some ⟨w.heap.size, 0, none⟩) c2 3 _ hl36 (T.out.get (A := A2) (l := hl36) (by simp)) (T.out.get (A := some ⟨w.heap.size, 0, none⟩) (l := hl36) (by simp)) 3 3 rfl rfl).mono ?_; rintro e w8 ⟨rfl, hb8⟩; have T := hide (T.out.then_ hb8); have BB := hide (thenB BB.out hb8); clear hb8; have D2 := hide (show VS w8 (some ⟨w.heap.size, 8, none⟩) hl36c by have := VS.shift (i := 2) (T.out.get (A := some ⟨w.heap.size, 0, none⟩) (l := hl36) (by simp)) (by decide); simpa using this); have T := hide (T.out.add (A := some ⟨w.heap.size, 8, none⟩) (l := hl36c) D2.out); clear D2)
    | (go_at_call 21; with_reducible refine (h33_s A3 (some ⟨w.heap.size, 8, none⟩) c3 1 _ hl36c (T.out.get (A := A3) (l := hl36c) (by simp)) (T.out.get (A := some ⟨w.heap.size, 8, none⟩) (l := hl36c) (by simp)) 1 1 rfl rfl).mono ?_; rintro e w9 ⟨rfl, hb9⟩; have T := hide (T.out.then_ hb9); have BB := hide (thenB BB.out hb9); clear hb9)
    | (go_at_call 21; with_reducible refine (h33_s A4 (some ⟨w.heap.size, 8, none⟩) c4 1 _ hl36c (T.out.get (A := A4) (l := hl36c) (by simp)) (T.out.get (A := some ⟨w.heap.size, 8, none⟩) (l := hl36c) (by simp)) 1 1 rfl rfl).mono ?_; rintro e w9 ⟨rfl, hb9⟩; have T := hide (T.out.then_ hb9); have BB := hide (thenB BB.out hb9); clear hb9)
    | (go_at_call 21; with_reducible refine (h33_s A6 (some ⟨w.heap.size, 8, none⟩) c6 1 _ hl36c (T.out.get (A := A6) (l := hl36c) (by simp)) (T.out.get (A := some ⟨w.heap.size, 8, none⟩) (l := hl36c) (by simp)) 1 1 rfl rfl).mono ?_; rintro e w9 ⟨rfl, hb9⟩; have T := hide (T.out.then_ hb9); have BB := hide (thenB BB.out hb9); clear hb9))
  go_ret
  exact ⟨rfl, BB.out⟩
end Go.Proofs.Ytejpfcomgamhjaa
