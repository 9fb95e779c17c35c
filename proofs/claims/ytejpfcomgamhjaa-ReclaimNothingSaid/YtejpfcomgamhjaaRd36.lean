/-
  The walks of reclaim.Read and of the reference of layer 36.
-/
import Derived.Test.YtejpfcomgamhjaaRc36
import Derived.Test.YtejpfcomgamhjaaRead2
import Derived.Test.YtejpfcomgamhjaaRef33e
namespace Go.Proofs.Ytejpfcomgamhjaa
open Go.RowKit
set_option maxHeartbeats 1000000 in
theorem readR_any (A : Option Addr) (c : Nat) (l : List Ver) (h t : Int) (w : World) (hn : l.length ≤ 9223372036854775807) (hs : VS w A l) :
    Calls Try.prog 22 #[.slice A l.length c, .int .i64 h, .int .i64 t] w (RetVE w (readRS l h t)) := by
  cases hv : validB l
  · have hp : readRS l h t = ([], 1) := by simp [readRS, hv]
    rw [hp]
    go_enter Try.func22, Try.ntmps22
    go_wp2_with (go_at_call 27; with_reducible refine (valid_any A c l _ hn hs).mono ?_; rw [hv]; rintro e w1 ⟨rfl, hb⟩)
    go_ret2
    exact RetVE.none_ hb
  · cases he : edgeB h
    · have hp : readRS l h t = ([], 1) := by simp [readRS, he]
      rw [hp]
      go_enter Try.func22, Try.ntmps22
      go_wp2_with (first | (go_at_call 27; with_reducible refine (valid_any A c l _ hn hs).mono ?_; rw [hv]; rintro e w1 ⟨rfl, hb⟩) | (go_at_call 43; refine (edge_any _ _).mono ?_; rw [he]; rintro e w2 ⟨rfl, rfl⟩))
      go_ret2
      exact RetVE.none_ hb
    · cases ht : stampB t
      · have hp : readRS l h t = ([], 1) := by simp [readRS, ht]
        rw [hp]
        go_enter Try.func22, Try.ntmps22
        go_wp2_with (first | (go_at_call 27; with_reducible refine (valid_any A c l _ hn hs).mono ?_; rw [hv]; rintro e w1 ⟨rfl, hb⟩) | (go_at_call 43; refine (edge_any _ _).mono ?_; rw [he]; rintro e w2 ⟨rfl, rfl⟩) | (go_at_call 42; refine (stamp36_any _ _).mono ?_; rw [ht]; rintro e w3 ⟨rfl, rfl⟩))
        go_ret2
        exact RetVE.none_ hb
      · by_cases hq : t < h
        · have d1 : decide (t < h) = true := decide_eq_true hq
          have hp : readRS l h t = ([], 64) := by simp [readRS, hv, he, ht, hq]
          rw [hp]
          clear hq
          go_enter Try.func22, Try.ntmps22
          go_wp2_with (first | (go_at_call 27; with_reducible refine (valid_any A c l _ hn hs).mono ?_; rw [hv]; rintro e w1 ⟨rfl, hb⟩) | (go_at_call 43; refine (edge_any _ _).mono ?_; rw [he]; rintro e w2 ⟨rfl, rfl⟩) | (go_at_call 42; refine (stamp36_any _ _).mono ?_; rw [ht]; rintro e w3 ⟨rfl, rfl⟩))
          go_ret2
          exact RetVE.none_ hb
        · have d1 : decide (t < h) = false := decide_eq_false hq
          have hp : readRS l h t = readS l t := by simp [readRS, hv, he, ht, hq]
          rw [hp]
          clear hq
          obtain ⟨⟨rl, re⟩, hr⟩ : ∃ x, x = readS l t := ⟨_, rfl⟩
          have R0 := fun W (s : VS W A l) => read_any A c l t W hn s
          rw [← hr] at R0 ⊢
          have R1 := hide R0
          unfold RetVE at R1
          clear R0 hr
          go_enter Try.func22, Try.ntmps22
          go_wp2_with (first | (go_at_call 27; with_reducible refine (valid_any A c l _ hn hs).mono ?_; rw [hv]; rintro e w1 ⟨rfl, hb⟩; have S := hide (hs.below hb (Nat.le_refl _)); have BB := hide hb; clear hb) | (go_at_call 43; refine (edge_any _ _).mono ?_; rw [he]; rintro e w2 ⟨rfl, rfl⟩) | (go_at_call 42; refine (stamp36_any _ _).mono ?_; rw [ht]; rintro e w3 ⟨rfl, rfl⟩) | (go_at_call 26; with_reducible refine (R1.out _ S.out).mono ?_; rintro e w4 ⟨A4, c4, rfl, hl4, hm4, hs4, hb4⟩))
          go_ret2
          exact ⟨A4, c4, rfl, hl4, hm4, hs4, BB.out.trans (hb4.mono BB.out.size)⟩
theorem rEdge_any (n : Int) (w : World) : Calls Try.prog 28 #[.int .i64 n] w fun e w' => e = .returned (.bool (edgeB n)) ∧ w = w' := by
  unfold edgeB
  cases h : decide (0 ≤ n)
  all_goals
    go_enter Try.func28, Try.ntmps28
    go_wp2
    go_ret
    exact ⟨rfl, rfl⟩
/-- whether the version with an index stays -/
def stayB (l : List Ver) (h : Int) (i : Nat) : Bool :=
  decide (h < (l.getD i Ver.zero).ts) || (!(decide (i + 1 < l.length) && ((l.getD (i + 1) Ver.zero).key == (l.getD i Ver.zero).key) && decide ((l.getD (i + 1) Ver.zero).ts ≤ h)) && !(l.getD i Ver.zero).gone)
set_option maxHeartbeats 2000000 in
theorem rStays_any (A : Option Addr) (c : Nat) (l : List Ver) (i : Nat) (h : Int) (w : World) (hi : i < l.length) (hn : l.length ≤ 4000) (hs : VS w A l) :
    Calls Try.prog 48 #[.slice A l.length c, .int .i64 i, .int .i64 h] w fun e w' => e = .returned (.bool (stayB l h i)) ∧ Below w.heap.size w w' := by
  obtain ⟨b, o, rfl, hbl, hc⟩ := hs.at_ hi
  have c0 := hc i hi
  have n0 := c0.fut hbl
  have HC := hide hc
  have hi1 : (i : Int) < l.length := by omega
  have hi2 : (0 : Int) ≤ i := by omega
  unfold stayB
  rw [getD_at hi]
  unfold VAt at c0 n0
  clear hc
  by_cases hq : h < l[i].ts
  · have d1 : decide (h < l[i].ts) = true := decide_eq_true hq
    clear hq
    go_enter Try.func48, Try.ntmps48
    go_wp2
    go_ret
    exact ⟨by simp [d1], Below.refl _ _⟩
  · have d1 : decide (h < l[i].ts) = false := decide_eq_false hq
    clear hq
    have hwr : IntKind.i64.wrap ((i : Int) + 1) = (i : Int) + 1 := IntWalk.i64_in _ (by omega)
    by_cases hlt : i + 1 < l.length
    · have m0 := (HC.out (i + 1) hlt).fut hbl
      rw [getD_at hlt]
      have d2 : decide ((i : Int) + 1 < l.length) = true := by simp; omega
      have d3 : decide (i + 1 < l.length) = true := by simp; omega
      have hj1 : (i : Int) + 1 < l.length := by omega
      have hj2 : (0 : Int) ≤ (i : Int) + 1 := by omega
      unfold VAt at m0
      rcases (show (l[i + 1].key == l[i].key) = false ∨ (l[i + 1].key == l[i].key) = true ∧ decide (l[i + 1].ts ≤ h) = false ∨ (l[i + 1].key == l[i].key) = true ∧ decide (l[i + 1].ts ≤ h) = true by cases (l[i + 1].key == l[i].key) <;> cases decide (l[i + 1].ts ≤ h) <;> simp) with q1 | ⟨q1, q2⟩ | ⟨q1, q2⟩
      · have hr : (decide (h < l[i].ts) || (!(decide (i + 1 < l.length) && (l[i + 1].key == l[i].key) && decide (l[i + 1].ts ≤ h)) && !l[i].gone)) = !l[i].gone := by rw [d1, q1]; simp
        rw [hr]
        clear hr
        go_enter Try.func48, Try.ntmps48
        go_wp2_with fail
        refine wp_region_fut w.heap.size (by kernel_rfl) (by kernel_rfl) ?_
        repeat (go_big_quiet_step ((first | fail)))
        refine wpQuiet_nil ?_
        intro w4 hq'; have hb4 := Fut.of hq'; clear hq'
        have c4 := (HC.out i hi).below hb4 hbl
        unfold VAt at c4
        go_wp2
        go_ret
        exact ⟨rfl, hb4⟩
      · have hr : (decide (h < l[i].ts) || (!(decide (i + 1 < l.length) && (l[i + 1].key == l[i].key) && decide (l[i + 1].ts ≤ h)) && !l[i].gone)) = !l[i].gone := by rw [d1, q1, q2]; simp
        rw [hr]
        clear hr
        go_enter Try.func48, Try.ntmps48
        go_wp2_with fail
        refine wp_region_fut w.heap.size (by kernel_rfl) (by kernel_rfl) ?_
        repeat (go_big_quiet_step ((first | fail)))
        refine wpQuiet_nil ?_
        intro w4 hq'; have hb4 := Fut.of hq'; clear hq'
        have c4 := (HC.out i hi).below hb4 hbl
        unfold VAt at c4
        go_wp2
        go_ret
        exact ⟨rfl, hb4⟩
      · have hr : (decide (h < l[i].ts) || (!(decide (i + 1 < l.length) && (l[i + 1].key == l[i].key) && decide (l[i + 1].ts ≤ h)) && !l[i].gone)) = false := by rw [d1, q1, q2, d3]; simp
        rw [hr]
        clear hr
        go_enter Try.func48, Try.ntmps48
        go_wp2_with fail
        refine wp_region_fut w.heap.size (by kernel_rfl) (by kernel_rfl) ?_
        repeat (go_big_quiet_step ((first | fail)))
        refine wpQuiet_nil ?_
        intro w4 hq'; have hb4 := Fut.of hq'; clear hq'
        go_wp2
        go_ret
        exact ⟨rfl, hb4⟩
    · have d2 : decide ((i : Int) + 1 < l.length) = false := by simp; omega
      have d3 : decide (i + 1 < l.length) = false := by simp; omega
      rw [d1, d3]
      simp only [Bool.false_and, Bool.not_false, Bool.true_and, Bool.false_or]
      go_enter Try.func48, Try.ntmps48
      go_wp2_with fail
      refine wp_region_fut w.heap.size (by kernel_rfl) (by kernel_rfl) ?_
      repeat (go_big_quiet_step ((first | fail)))
      refine wpQuiet_nil ?_
      intro w4 hq'; have hb4 := Fut.of hq'; clear hq'
      have c4 := (HC.out i hi).below hb4 hbl
      unfold VAt at c4
      go_wp2
      go_ret
      exact ⟨rfl, hb4⟩
/-- the versions that stay, by the reference -/
def stOne (l : List Ver) (h : Int) (i : Nat) : Option Ver := if stayB l h i = true then some (l.getD i Ver.zero) else none
def stR (l : List Ver) (h : Int) : List Ver := (List.range l.length).filterMap (stOne l h)
def rReclaimS (l : List Ver) (h : Int) : List Ver × Int := if !validB l || !edgeB h then ([], 1) else (stR l h, 0)
def rReadRS (l : List Ver) (h t : Int) : List Ver × Int := if !validB l || !edgeB h || !stampB t then ([], 1) else if t < h then ([], 64) else rReadS l t
set_option maxHeartbeats 2000000 in
theorem rReclaim_any (A : Option Addr) (c : Nat) (l : List Ver) (h : Int) (w : World) (hn : l.length ≤ 9223372036854775807) (hs : VS w A l) :
    Calls Try.prog 20 #[.slice A l.length c, .int .i64 h] w (RetVE w (rReclaimS l h)) := by
  cases hv : validB l
  · have hp : rReclaimS l h = ([], 1) := by simp [rReclaimS, hv]
    rw [hp]
    go_enter Try.func20, Try.ntmps20
    go_wp2_with (go_at_call 33; with_reducible refine (rValid_any A c l _ hn hs).mono ?_; rw [hv]; rintro e w1 ⟨rfl, hb⟩)
    go_ret2
    exact RetVE.none_ hb
  · cases he : edgeB h
    · have hp : rReclaimS l h = ([], 1) := by simp [rReclaimS, he]
      rw [hp]
      go_enter Try.func20, Try.ntmps20
      go_wp2_with (first | (go_at_call 33; with_reducible refine (rValid_any A c l _ hn hs).mono ?_; rw [hv]; rintro e w1 ⟨rfl, hb⟩) | (go_at_call 28; refine (rEdge_any _ _).mono ?_; rw [he]; rintro e w2 ⟨rfl, rfl⟩))
      go_ret2
      exact RetVE.none_ hb
    · have hp : rReclaimS l h = (stR l h, 0) := by simp [rReclaimS, hv, he]
      rw [hp]
      have hst := (sto_iff l).1 hv
      have hn4 : l.length ≤ 4000 := hst.len
      obtain ⟨i0, hi, hz0, hz1, hz2⟩ := info_parts infoV
      go_enter Try.func20, Try.ntmps20
      go_wp2_with (first | (go_at_call 33; with_reducible refine (rValid_any A c l _ hn hs).mono ?_; rw [hv]; rintro e w1 ⟨rfl, hb⟩) | (go_at_call 28; refine (rEdge_any _ _).mono ?_; rw [he]; rintro e w2 ⟨rfl, rfl⟩))
      go_loopw [6, 7] (fun u6 i wr => ∃ k : Nat, k ≤ l.length ∧ i = .int .i64 k ∧ OwnV wr w.heap.size u6 ((List.range k).filterMap (stOne l h)) ∧ Below w.heap.size w wr) (fun _ i _ => l.length - (intOf i).toNat)
      case atStart => exact ⟨0, Nat.zero_le _, rfl, World.ownsRow_nil _ _ _ _, hb⟩
      case round =>
        clear hb
        obtain ⟨k, hk, rfl, hown, hb⟩ := hrel
        have hol : ((List.range k).filterMap (stOne l h)).length ≤ k := Nat.le_trans (List.length_filterMap_le _ _) (by simp)
        by_cases hlt : k < l.length
        · have hstep := range_step (stOne l h) k
          obtain ⟨o', ho⟩ : ∃ o', o' = (List.range k).filterMap (stOne l h) := ⟨_, rfl⟩
          rw [← ho] at hown hol hstep
          have HO := hide hown
          have S := hide (hs.below hb (Nat.le_refl _))
          have BB := hide hb
          have hsz := hb.size
          clear hown ho hb
          have hst0 := fun W s => rStays_any A c l k h W hlt hn4 s
          cases hq : stayB l h k
          · rw [hq] at hst0
            have H1 := hide hst0
            have hr : (List.range (k + 1)).filterMap (stOne l h) = o' := by rw [hstep]; simp [stOne, hq]
            have HR := hide hr
            clear hst0 hr hstep hq
            go_wp2_with (go_at_call 48; refine (H1.out _ S.out).mono ?_; rintro e w2 ⟨rfl, hb2⟩)
            go_roundw
            case rel => exact ⟨k + 1, by omega, by go_num, by rw [HR.out]; exact OwnV.below HO.out hb2, BB.out.trans (hb2.mono BB.out.size)⟩
            case measure => simp [intOf]; omega
          · rw [hq] at hst0
            have H1 := hide hst0
            have hr : (List.range (k + 1)).filterMap (stOne l h) = o' ++ [l[k]] := by rw [hstep]; unfold stOne; rw [if_pos hq, getD_at hlt]; rfl
            have HR := hide hr
            clear hst0 hr hstep hq
            obtain ⟨b, o, rfl, hbl, hc⟩ := S.out.at_ hlt
            have HC := hide (hc k hlt)
            clear hc
            go_wp2_with (first
              | (go_at_call 48; refine (H1.out _ S.out).mono ?_; rintro e w2 ⟨rfl, hb2⟩; have c2 := HC.out.below hb2 hbl; unfold VAt at c2; have hs2 := hb2.size)
              | (at_builtin; refine wpList_append_rd _ rfl _ _ 22 rfl w.heap.size 40 i0 _ 4 32 Try.underlying22 hi hz0 hz1 hz2 rfl (by decide) _ _ _ rfl (OwnV.below (OwnV.below HO.out hb2) ((Below.refl _ _).alloc (Nat.le_refl _) _)) (some ⟨w2.heap.size, 0, none⟩) 1 1 (Ver.cells l[k]) rfl rfl (Rd.new_row _ _ _) (by simpa using ver_one [l[k]]) ?_ ?_ ?_ ?_))
            · simp only [maxLen]; omega
            · omega
            · simp; omega
            intro v' w6 hown' hgrow _
            have b6 : Below w.heap.size w w6 := ((BB.out.trans (hb2.mono BB.out.size)).alloc (by omega) _).grown hgrow (by simp; omega) (fun g hg => (HO.out.lt g hg).1)
            go_wp2
            go_roundw
            case rel => exact ⟨k + 1, by omega, by go_num, by rw [HR.out]; exact OwnV.snoc hown' rfl rfl, b6⟩
            case measure => simp [intOf]; omega
        · obtain rfl : k = l.length := by omega
          obtain ⟨A6, c6, rfl, hlc6, hcm6, hvs6⟩ := OwnV.form hown
          have HV := hide hvs6
          have BB := hide hb
          clear hvs6 hb hown
          go_wp2
          go_ret2
          exact ⟨A6, c6, rfl, hlc6, hcm6, HV.out, BB.out⟩
set_option maxHeartbeats 1000000 in
theorem rReadR_any (A : Option Addr) (c : Nat) (l : List Ver) (h t : Int) (w : World) (hn : l.length ≤ 9223372036854775807) (hs : VS w A l) :
    Calls Try.prog 23 #[.slice A l.length c, .int .i64 h, .int .i64 t] w (RetVE w (rReadRS l h t)) := by
  by_cases hbad : (!validB l || !edgeB h || !stampB t) = true
  · have hp : rReadRS l h t = ([], 1) := by unfold rReadRS; rw [if_pos hbad]
    rw [hp]
    rcases (show validB l = false ∨ validB l = true ∧ edgeB h = false ∨ validB l = true ∧ edgeB h = true ∧ stampB t = false by revert hbad; cases validB l <;> cases edgeB h <;> cases stampB t <;> simp) with hv | ⟨hv, he⟩ | ⟨hv, he, ht⟩
    · clear hbad hp
      go_enter Try.func23, Try.ntmps23
      go_wp2_with (go_at_call 33; with_reducible refine (rValid_any A c l _ hn hs).mono ?_; rw [hv]; rintro e w1 ⟨rfl, hb⟩)
      go_ret2
      exact RetVE.none_ hb
    · clear hbad hp
      go_enter Try.func23, Try.ntmps23
      go_wp2_with (first | (go_at_call 33; with_reducible refine (rValid_any A c l _ hn hs).mono ?_; rw [hv]; rintro e w1 ⟨rfl, hb⟩) | (go_at_call 28; refine (rEdge_any _ _).mono ?_; rw [he]; rintro e w2 ⟨rfl, rfl⟩))
      go_ret2
      exact RetVE.none_ hb
    · clear hbad hp
      go_enter Try.func23, Try.ntmps23
      go_wp2_with (first | (go_at_call 33; with_reducible refine (rValid_any A c l _ hn hs).mono ?_; rw [hv]; rintro e w1 ⟨rfl, hb⟩) | (go_at_call 28; refine (rEdge_any _ _).mono ?_; rw [he]; rintro e w2 ⟨rfl, rfl⟩) | (go_at_call 25; refine (rStamp_any _ _).mono ?_; rw [ht]; rintro e w3 ⟨rfl, rfl⟩))
      go_ret2
      exact RetVE.none_ hb
  · have hv : validB l = true := by revert hbad; cases validB l <;> simp
    have he : edgeB h = true := by revert hbad; cases edgeB h <;> simp
    have ht : stampB t = true := by revert hbad; cases stampB t <;> simp
    by_cases hq : t < h
    · have d1 : decide (t < h) = true := decide_eq_true hq
      have hp : rReadRS l h t = ([], 64) := by unfold rReadRS; rw [if_neg hbad, if_pos hq]
      rw [hp]
      clear hq hp hbad
      go_enter Try.func23, Try.ntmps23
      go_wp2_with (first | (go_at_call 33; with_reducible refine (rValid_any A c l _ hn hs).mono ?_; rw [hv]; rintro e w1 ⟨rfl, hb⟩) | (go_at_call 28; refine (rEdge_any _ _).mono ?_; rw [he]; rintro e w2 ⟨rfl, rfl⟩) | (go_at_call 25; refine (rStamp_any _ _).mono ?_; rw [ht]; rintro e w3 ⟨rfl, rfl⟩))
      go_ret2
      exact RetVE.none_ hb
    · have d1 : decide (t < h) = false := decide_eq_false hq
      have hp : rReadRS l h t = rReadS l t := by unfold rReadRS; rw [if_neg hbad, if_neg hq]
      rw [hp]
      obtain ⟨⟨rl, re⟩, hr⟩ : ∃ x, x = rReadS l t := ⟨_, rfl⟩
      have R0 := fun W (s : VS W A l) => rRead_any A c l t W hn s
      rw [← hr] at R0 ⊢
      have R1 := hide R0
      unfold RetVE at R1
      clear R0 hr hq hp hbad
      go_enter Try.func23, Try.ntmps23
      go_wp2_with (first | (go_at_call 33; with_reducible refine (rValid_any A c l _ hn hs).mono ?_; rw [hv]; rintro e w1 ⟨rfl, hb⟩; have S := hide (hs.below hb (Nat.le_refl _)); have BB := hide hb; clear hb) | (go_at_call 28; refine (rEdge_any _ _).mono ?_; rw [he]; rintro e w2 ⟨rfl, rfl⟩) | (go_at_call 25; refine (rStamp_any _ _).mono ?_; rw [ht]; rintro e w3 ⟨rfl, rfl⟩) | (go_at_call 35; with_reducible refine (R1.out _ S.out).mono ?_; rintro e w4 ⟨A4, c4, rfl, hl4, hm4, hs4, hb4⟩))
      go_ret2
      exact ⟨A4, c4, rfl, hl4, hm4, hs4, BB.out.trans (hb4.mono BB.out.size)⟩
end Go.Proofs.Ytejpfcomgamhjaa
