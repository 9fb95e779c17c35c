/-
  The walks of the reference implementation of layer 33: Valid, newest, Same.
-/
import Derived.Test.YtficjpfhakggmaaRef33
namespace Go.Proofs.Ytficjpfhakggmaa
open Go.RowKit
set_option maxHeartbeats 1000000 in
theorem rValid_any (A : Option Addr) (c : Nat) (l : List Ver) (w : World) (hn : l.length ≤ 9223372036854775807) (h : VS w A l) :
    Calls Try.prog 56 #[.slice A l.length c] w fun e w' => e = .returned (.bool (validB l)) ∧ Below w.heap.size w w' := by
  by_cases hbig : 4000 < l.length
  · have hp : validB l = false := by simp [validB]; intro _; omega
    rw [hp]
    go_enter Try.func56, Try.ntmps56
    go_wp2
    go_ret
    exact ⟨rfl, Below.refl _ _⟩
  go_enter Try.func56, Try.ntmps56
  go_wp2
  go_loopw [2, 3] (fun u2 i wr => ∃ k : Nat, k ≤ l.length ∧ i = .int .i64 k ∧ u2 = .bool false ∧ (∀ j, j < k → okAt l j = true) ∧ Below w.heap.size w wr) (fun _ i _ => l.length - (intOf i).toNat)
  case atStart => exact ⟨0, Nat.zero_le _, rfl, rfl, fun j hj => by omega, Below.refl _ _⟩
  case round =>
    obtain ⟨k, hk, rfl, rfl, hall, hb⟩ := hrel
    have HA := hide hall
    clear hall
    by_cases hlt : k < l.length
    · have hr := h.below hb (Nat.le_refl _)
      obtain ⟨b, o, rfl, hbl, hc⟩ := hr.at_ hlt
      have hsr : w.heap.size ≤ wr.heap.size := hb.size
      have n0 := (hc k hlt).fut hbl
      have HC := hide hc
      unfold VAt at n0
      clear hc
      have HO := hide (okAt_eq hlt)
      have hi1 : (k : Int) < l.length := by omega
      have hi2 : (0 : Int) ≤ k := by omega
      go_wp2_with fail
      cases hg : wfB l[k]
      · refine wp_region_fut wr.heap.size (by kernel_rfl) (by kernel_rfl) ?_
        repeat (go_big_quiet_step ((first | (go_at_call 88; exact Fut.call (Nat.le_refl _) (rVersion_any _ _ _ _ _)))))
        refine wpQuiet_nil ?_
        intro w1 hq'; have hb1 := Fut.of hq'; clear hq'
        go_wp2
        go_ret
        exact ⟨by rw [validB_no hlt (by rw [HO.out, hg]; rfl)]; rfl, hb.trans (hb1.mono hsr)⟩
      · by_cases h0 : k = 0
        · have d0 : decide (0 < k) = false := by simp; omega
          have HO := hide (show okAt l k = true by rw [HO.out, hg, show (k == 0) = true by simp [h0]]; rfl)
          have H0 := hide h0
          clear h0
          refine wp_region_fut wr.heap.size (by kernel_rfl) (by kernel_rfl) ?_
          repeat (go_big_quiet_step ((first | (go_at_call 88; exact Fut.call (Nat.le_refl _) (rVersion_any _ _ _ _ _)))))
          refine wpQuiet_nil ?_
          intro w1 hq'; have hb1 := Fut.of hq'; clear hq'
          go_wp2
          go_roundw
          case rel => exact ⟨k + 1, by omega, by go_num, rfl, fun j hj => (by rcases Nat.lt_succ_iff_lt_or_eq.1 hj with hj | rfl; exact HA.out j hj; exact HO.out), hb.trans (hb1.mono hsr)⟩
          case measure => simp [intOf]; omega
        · have d0 : decide (0 < k) = true := by simp; omega
          have hlt1 : (k : Int) - 1 < (l.length : Int) := by omega
          have hnn : (0 : Int) ≤ (k : Int) - 1 := by omega
          have m0 := (HC.out (k - 1) (by omega)).fut hbl
          unfold VAt at m0
          have hok : okAt l k = ltB l[k - 1].key l[k - 1].ts l[k].key l[k].ts := by rw [HO.out, hg, show (k == 0) = false by simp [h0], ltB_iff]; rfl
          cases ho : ltB l[k - 1].key l[k - 1].ts l[k].key l[k].ts
          all_goals
            rw [ho] at hok
            have HK := hide hok
            clear hok
            refine wp_region_fut wr.heap.size (by kernel_rfl) (by kernel_rfl) ?_
            repeat (go_big_quiet_step ((first | (go_at_call 88; exact Fut.call (Nat.le_refl _) (rVersion_any _ _ _ _ _)) | (go_at_call 89; exact Fut.call (Nat.le_refl _) (rBefore_any _ _ _ _ _ _ _ _ _)))))
            refine wpQuiet_nil ?_
            intro w1 hq'; have hb1 := Fut.of hq'; clear hq'
            go_wp2
          · go_ret
            exact ⟨by rw [validB_no hlt HK.out]; rfl, hb.trans (hb1.mono hsr)⟩
          · go_roundw
            case rel => exact ⟨k + 1, by omega, by go_num, rfl, fun j hj => (by rcases Nat.lt_succ_iff_lt_or_eq.1 hj with hj | rfl; exact HA.out j hj; exact HK.out), hb.trans (hb1.mono hsr)⟩
            case measure => simp [intOf]; omega
    · go_wp2
      go_ret
      exact ⟨by rw [validB_all (fun j hj => HA.out j (by omega))]; simp; omega, hb⟩
def newestR (l : List Ver) (k : Int) : Int := l.foldl (fun a v => if v.key = k then max a v.ts else a) 0
theorem foldl_take {α β : Type} (f : β → α → β) (b : β) (l : List α) (k : Nat) (hk : k < l.length) : (l.take (k + 1)).foldl f b = f ((l.take k).foldl f b) l[k] := by
  rw [List.take_succ_eq_append_getElem hk, List.foldl_append]; rfl
set_option maxHeartbeats 1000000 in
theorem rNewest0_any (A : Option Addr) (c : Nat) (l : List Ver) (key : Int) (w : World) (hn : l.length ≤ 9223372036854775807) (h : VS w A l) :
    Calls Try.prog 70 #[.slice A l.length c, .int .i64 key] w fun e w' => e = .returned (.int .i64 (newestR l key)) ∧ w = w' := by
  go_enter Try.func70, Try.ntmps70
  go_wp2
  go_loop [5, 6] (fun m i => ∃ k : Nat, k ≤ l.length ∧ i = .int .i64 k ∧ m = .int .i64 (newestR (l.take k) key)) (fun _ i => l.length - (intOf i).toNat)
  case atStart => exact ⟨0, Nat.zero_le _, rfl, rfl⟩
  case round =>
    obtain ⟨k, hk, rfl, rfl⟩ := hrel
    by_cases hlt : k < l.length
    · obtain ⟨b, o, rfl, hbl, hc⟩ := h.at_ hlt
      have n0 := hc k hlt
      unfold VAt at n0
      have HS := hide (show newestR (l.take (k + 1)) key = _ from foldl_take _ 0 l k hlt)
      clear hc
      obtain ⟨m, hm⟩ : ∃ m, m = newestR (l.take k) key := ⟨_, rfl⟩
      rw [← hm]
      have HM := hide hm
      clear hm
      by_cases hq : l[k].key = key
      · have hq' : (l[k].key == key) = true := by simp [hq]
        have HQ := hide hq
        clear hq
        go_wp2
        all_goals
          go_round
          case rel => exact ⟨k + 1, by omega, by go_num, by rw [HS.out, if_pos HQ.out]; show _ = Value.int .i64 (max (newestR (l.take k) key) l[k].ts); rw [← HM.out]; congr 1; split <;> omega⟩
          case measure => simp [intOf]; omega
      · have hq' : (l[k].key == key) = false := by simp [hq]
        have HQ := hide hq
        clear hq
        go_wp2
        go_round
        case rel => exact ⟨k + 1, by omega, by go_num, by rw [HS.out, if_neg HQ.out]; show _ = Value.int .i64 (newestR (l.take k) key); rw [← HM.out]⟩
        case measure => simp [intOf]; omega
    · go_wp2
      go_ret
      exact ⟨by rw [List.take_of_length_le (by omega)]; rfl, rfl⟩
/-- two lists of versions are equal -/
def sameB (l l' : List Ver) : Bool := decide (l = l')
theorem same_no {l l' : List Ver} {k : Nat} (hk : k < l.length) (hk' : k < l'.length) (h : l[k] ≠ l'[k]) : sameB l l' = false := by
  unfold sameB
  rw [decide_eq_false_iff_not]
  intro e
  subst e
  exact h rfl
theorem same_yes {l l' : List Ver} (hl : l.length = l'.length) (h : ∀ j (hj : j < l.length) (hj' : j < l'.length), l[j] = l'[j]) : sameB l l' = true :=
  decide_eq_true (List.ext_getElem hl h)
set_option maxHeartbeats 1000000 in
theorem rSame_any (A B : Option Addr) (c d : Nat) (l l' : List Ver) (w : World) (hn : l.length ≤ 9223372036854775807) (h : VS w A l) (h' : VS w B l') :
    Calls Try.prog 38 #[.slice A l.length c, .slice B l'.length d] w fun e w' => e = .returned (.bool (sameB l l')) ∧ Below w.heap.size w w' := by
  by_cases hlen : l.length = l'.length
  · have hlen' : ((l.length : Int) != (l'.length : Int)) = false := by rw [hlen]; simp
    have HL := hide hlen
    have hll : (l.length : Int) ≤ l'.length := by omega
    have hll2 : (l'.length : Int) ≤ l.length := by omega
    clear hlen
    go_enter Try.func38, Try.ntmps38
    go_wp2
    go_loopw [4, 5] (fun u4 i wr => ∃ k : Nat, k ≤ l.length ∧ i = .int .i64 k ∧ u4 = .bool false ∧ (∀ j (hj : j < l.length) (hj' : j < l'.length), j < k → l[j] = l'[j]) ∧ Below w.heap.size w wr) (fun _ i _ => l.length - (intOf i).toNat)
    case atStart => exact ⟨0, Nat.zero_le _, rfl, rfl, fun j _ _ hj => by omega, Below.refl _ _⟩
    case round =>
      obtain ⟨k, hk, rfl, rfl, hall, hb⟩ := hrel
      have HA := hide hall
      clear hall
      by_cases hlt : k < l.length
      · have hlt' : k < l'.length := by omega
        have hsr : w.heap.size ≤ wr.heap.size := hb.size
        obtain ⟨b, o, rfl, hbl, hc⟩ := (h.below hb (Nat.le_refl _)).at_ hlt
        obtain ⟨b', o', rfl, hbl', hc'⟩ := (h'.below hb (Nat.le_refl _)).at_ hlt'
        have n0 := (hc k hlt).fut hbl
        have n1 := (hc' k hlt').fut hbl'
        unfold VAt at n0 n1
        clear hc hc'
        have hi1 : (k : Int) < l.length := by omega
        have hi3 : (k : Int) < l'.length := by omega
        have hi2 : (0 : Int) ≤ k := by omega
        go_wp2_with fail
        have heq : eqB l[k].key l[k].ts l[k].value l[k].gone l'[k].key l'[k].ts l'[k].value l'[k].gone = decide (l[k] = l'[k]) := rfl
        by_cases hq : l[k] = l'[k]
        all_goals
          first | rw [decide_eq_true hq] at heq | rw [decide_eq_false hq] at heq
          have HQ := hide hq
          clear hq
          refine wp_region_fut wr.heap.size (by kernel_rfl) (by kernel_rfl) ?_
          repeat (go_big_quiet_step ((first | fail)))
          refine wpQuiet_nil ?_
          intro w1 hq'; have hb1 := Fut.of hq'; clear hq'
          go_wp2
        · go_roundw
          case rel => exact ⟨k + 1, by omega, by go_num, rfl, fun j h1 h2 hj => (by rcases Nat.lt_succ_iff_lt_or_eq.1 hj with hj | rfl; exact HA.out j h1 h2 hj; exact HQ.out), hb.trans (hb1.mono hsr)⟩
          case measure => simp [intOf]; omega
        · go_ret
          exact ⟨by rw [same_no hlt hlt' HQ.out]; rfl, hb.trans (hb1.mono hsr)⟩
      · go_wp2
        go_ret
        exact ⟨by rw [same_yes HL.out (fun j h1 h2 => HA.out j h1 h2 (by omega))]; rfl, hb⟩
  · have hlen' : ((l.length : Int) != (l'.length : Int)) = true := by simp; omega
    have hp : sameB l l' = false := decide_eq_false (fun e => hlen (by rw [e]))
    rw [hp]
    clear hlen
    go_enter Try.func38, Try.ntmps38
    go_wp2
    go_ret
    exact ⟨rfl, Below.refl _ _⟩
end Go.Proofs.Ytficjpfhakggmaa
