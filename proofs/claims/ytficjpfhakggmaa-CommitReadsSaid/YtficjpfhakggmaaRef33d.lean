/-
  The walk of the reference implementation of layer 33: Put.
-/
import Derived.Test.YtficjpfhakggmaaRef33c
import Derived.Test.YtficjpfhakggmaaPut
namespace Go.Proofs.Ytficjpfhakggmaa
open Go.RowKit
def rPutL (l : List Ver) (v : Ver) : List Ver := l.takeWhile (fun x => ltB x.key x.ts v.key v.ts) ++ v :: l.dropWhile (fun x => ltB x.key x.ts v.key v.ts)
def rPutS (l : List Ver) (v : Ver) : List Ver × Int := if !validB l || !wfB v then ([], 1) else if v.ts ≤ newestR l v.key then ([], 30) else if l.length = 4000 then ([], 2) else (rPutL l v, 0)
theorem while_at {α : Type} (p : α → Bool) : ∀ (l : List α) (i : Nat), i ≤ l.length → (∀ j (hj : j < l.length), j < i → p l[j] = true) → (∀ h : i < l.length, p l[i] = false) → l.takeWhile p = l.take i ∧ l.dropWhile p = l.drop i
  | [], i, hi, _, _ => by simp
  | x :: l, 0, _, _, hs => by
    have := hs (by simp)
    simp only [List.getElem_cons_zero] at this
    simp [this]
  | x :: l, i + 1, hi, h, hs => by
    have h0 := h 0 (by simp) (by omega)
    simp only [List.getElem_cons_zero] at h0
    have ih := while_at p l i (by simpa using hi) (fun j hj hji => by have := h (j + 1) (by simpa using hj) (by omega); simpa using this) (fun h => by have := hs (by simpa using h); simpa using this)
    simp [h0, ih.1, ih.2]
set_option maxHeartbeats 1000000 in
theorem rPut_any (A : Option Addr) (c : Nat) (l : List Ver) (v : Ver) (w : World) (hn : l.length ≤ 9223372036854775807) (hlc : l.length ≤ c) (_ : c ≤ maxLen) (h : VS w A l) :
    Calls Try.prog 94 #[.slice A l.length c, .agg #[.int .i64 v.key, .int .i64 v.ts, .int .i64 v.value, .bool v.gone]] w (RetVE w (rPutS l v)) := by
  cases hv : validB l
  · have hp : rPutS l v = ([], 1) := by simp [rPutS, hv]
    rw [hp]
    go_enter Try.func94, Try.ntmps94
    go_wp2_with (go_at_call 56; with_reducible refine (rValid_any A c l _ (by omega) (h.alloc _)).mono ?_; rw [hv]; rintro e w1 ⟨rfl, hb⟩)
    go_ret2
    exact RetVE.none_ (((Below.refl _ _).alloc (Nat.le_refl _) _).trans (hb.mono (by simp)))
  · cases hw : wfB v
    · have hp : rPutS l v = ([], 1) := by simp [rPutS, hv, hw]
      rw [hp]
      have hwfv : wfB ⟨v.key, v.ts, v.value, v.gone⟩ = false := hw
      go_enter Try.func94, Try.ntmps94
      go_wp2_with (first | (go_at_call 56; with_reducible refine (rValid_any A c l _ (by omega) (h.alloc _)).mono ?_; rw [hv]; rintro e w1 ⟨rfl, hb⟩; have n1 := (VAt.new (v := v) rfl).below hb (by simp); unfold VAt at n1) | (go_at_call 88; refine (rVersion_any _ _ _ _ _).mono ?_; rw [hwfv]; rintro e w2 ⟨rfl, hb2⟩))
      go_ret2
      exact RetVE.none_ ((((Below.refl _ _).alloc (Nat.le_refl _) _).trans (hb.mono (by simp))).trans (hb2.mono (by have := hb.size; simp at this; omega)))
    · have hst := (sto_iff l).1 hv
      have hwfv : wfB ⟨v.key, v.ts, v.value, v.gone⟩ = true := hw
      obtain ⟨i0, hi, hz0, hz1, hz2⟩ := info_parts infoV
      go_enter Try.func94, Try.ntmps94
      go_upto_region 3 with (first | (go_at_call 56; with_reducible refine (rValid_any A c l _ (by omega) (h.alloc _)).mono ?_; rw [hv]; rintro e w1 ⟨rfl, hb⟩; have n1 := (VAt.new (v := v) rfl).below hb (by simp); unfold VAt at n1) | (go_at_call 88; refine (rVersion_any _ _ _ _ _).mono ?_; rw [hwfv]; rintro e w2 ⟨rfl, hb2⟩))
      have b2 : Below w.heap.size w w2 := (((Below.refl _ _).alloc (Nat.le_refl _) _).trans (hb.mono (by simp))).trans (hb2.mono (by have := hb.size; simp at this; omega))
      have hw2 : w.heap.size < w2.heap.size := by have h1 := hb.size; have h2 := hb2.size; simp at h1; omega
      have h2 : VS w2 A l := h.below b2 (Nat.le_refl _)
      have n2 : VAt w2 w.heap.size 0 v := VAt.below (w := w1) (by unfold VAt; exact n1) hb2 (by have := hb.size; simp at this; omega)
      clear n1 hb hb2
      have n3 := n2.fut hw2
      unfold VAt at n3
      have hlast : ∀ x : Fut w2.heap.size w2, Calls _ _ _ _ _ := fun x => (rNewest0_any A c l v.key x.v hn (h2.below x.h (Nat.le_refl _)))
      have HL := hide hlast
      have HV := hide hv
      have HW := hide hw
      clear hlast hv hw hwfv
      by_cases ho : v.ts ≤ newestR l v.key
      · have ho' := decide_eq_true ho
        have hp : rPutS l v = ([], 30) := by simp [rPutS, HV.out, HW.out, ho]
        have HP := hide hp
        clear hp ho
        refine wp_region_fut w2.heap.size (by kernel_rfl) (by kernel_rfl) ?_
        repeat (go_big_quiet_step ((first | (go_at_call 70; exact Fut.same (HL.out _)))))
        refine wpQuiet_nil ?_
        intro w3 hq'; have hb3 := Fut.of hq'; clear hq'
        go_wp2
        go_ret2
        rw [HP.out]
        exact RetVE.none_ (b2.trans (hb3.mono (by omega)))
      · have ho' := decide_eq_false ho
        have HO := hide ho
        clear ho
        refine wp_region_fut w2.heap.size (by kernel_rfl) (by kernel_rfl) ?_
        repeat (go_big_quiet_step ((first | (go_at_call 70; exact Fut.same (HL.out _)))))
        refine wpQuiet_nil ?_
        intro w3 hq'; have hb3 := Fut.of hq'; clear hq'
        by_cases h4 : l.length = 4000
        · have h4' : ((l.length : Int) == 4000) = true := by simp; omega
          have hp : rPutS l v = ([], 2) := by simp [rPutS, HV.out, HW.out, HO.out, h4]
          have HP := hide hp
          clear hp h4
          go_wp2
          go_ret2
          rw [HP.out]
          exact RetVE.none_ (b2.trans (hb3.mono (by omega)))
        · have h4' : ((l.length : Int) == 4000) = false := by simp; omega
          have hp : rPutS l v = (rPutL l v, 0) := by simp [rPutS, HV.out, HW.out, HO.out, h4]
          have HP := hide hp
          have hl4 : l.length < 4000 := by have := hst.len; omega
          clear hp
          have b3 : Below w.heap.size w w3 := b2.trans (hb3.mono (by omega))
          have hw3 : w.heap.size < w3.heap.size := by have := hb3.size; omega
          have n4 : VAt w3 w.heap.size 0 v := n2.below hb3 hw2
          clear n3 hb3
          have N4 := hide n4
          clear n4 n2
          go_wp2
          go_loopw [6, 7] (fun u6 u7 wr => ∃ i : Nat, i ≤ l.length ∧ u7 = .int .i64 i ∧ (∀ j (hj : j < l.length), j < i → ltB l[j].key l[j].ts v.key v.ts = true) ∧ OwnV wr (w.heap.size + 1) u6 (l.take i) ∧ Below w.heap.size w wr ∧ VAt wr w.heap.size 0 v)
            (fun _ u7 _ => l.length - (intOf u7).toNat)
          case atStart => exact ⟨0, Nat.zero_le _, rfl, fun j _ hj => by omega, by rw [List.take_zero]; exact World.ownsRow_nil _ _ _ _, b3, N4.out⟩
          case round =>
            obtain ⟨i, hil, rfl, hall, hown, hbr, hn4⟩ := hrel
            have HA := hide hall
            have HO := hide hown
            clear hall hown
            by_cases hlt : i < l.length
            · have hr := h.below hbr (Nat.le_refl _)
              obtain ⟨b', o', rfl, hb', hc⟩ := hr.at_ hlt
              have hwr : w.heap.size < wr.heap.size := hn4.lt
              have c0 := hc i hlt
              have cf := c0.fut hb'
              have nf := hn4.fut hwr
              unfold VAt at cf nf
              have HC := hide c0
              have HR := hide hr
              have HN := hide hn4
              clear hc hr c0 hn4
              have hi1 : (i : Int) < l.length := by omega
              have hi2 : (0 : Int) ≤ i := by omega
              have hi3 : decide ((i : Int) < l.length) = true := by simp; omega
              go_wp2_with fail
              cases hq : ltB l[i].key l[i].ts v.key v.ts
              all_goals
                refine wp_region_fut wr.heap.size (by kernel_rfl) (by kernel_rfl) ?_
                repeat (go_big_quiet_step ((first | (go_at_call 89; exact Fut.call (Nat.le_refl _) (rBefore_any _ _ _ _ _ _ _ _ _)))))
                refine wpQuiet_nil ?_
                intro w4 hq'; have hb4 := Fut.of hq'; clear hq'
                clear cf nf
                have hs4 := hb4.size
                have c1 := HC.out.below hb4 hb'
                have n5 := HN.out.below hb4 hwr
                have b4 : Below w.heap.size w w4 := hbr.trans (hb4.mono (by omega))
                have HO4 := hide (OwnV.below HO.out hb4)
              · have HQ := hide hq
                clear hq c1
                have hpl : rPutL l v = l.take i ++ v :: l.drop i := by
                  have := while_at (fun x : Ver => ltB x.key x.ts v.key v.ts) l i hil HA.out (fun _ => HQ.out)
                  unfold rPutL
                  rw [this.1, this.2]
                have HL2 := hide hpl
                clear hpl
                unfold VAt at n5
                go_wp2_with (at_builtin; refine wpList_append_rd _ rfl _ _ 22 rfl (w.heap.size + 1) 44 i0 _ 4 32 Try.underlying22 hi hz0 hz1 hz2 rfl (by decide) _ _ _ rfl (OwnV.below HO4.out ((Below.refl _ _).alloc (Nat.le_refl _) _)) (some ⟨w4.heap.size, 0, none⟩) 1 1 (Ver.cells v) rfl rfl (Rd.new_row _ _ _) (by simpa using ver_one [v]) ?_ ?_ ?_ ?_)
                · simp only [maxLen, List.length_take]; omega
                · simp only [List.length_take]; omega
                · simp; omega
                intro v' w5 hown' hgrow _
                have b5 : Below (w.heap.size + 1) w4 w5 := ((Below.refl _ _).alloc (by omega) _).grown hgrow (by simp; omega) (fun k hk => (HO4.out.lt k hk).1)
                have ho5 := OwnV.snoc hown' (by simp; omega) rfl
                have H5 := hide ho5
                clear hown' hgrow ho5
                have hl5 : (l.take i ++ [v]).length = i + 1 := by simp; omega
                have hone : ∀ u ∈ (l.drop i).flatMap Ver.cells, u.oneCell' = true := ver_one _
                go_wp2_with (at_builtin; refine wpList_append_rd _ rfl _ _ 22 rfl (w.heap.size + 1) 44 i0 _ 4 32 Try.underlying22 hi hz0 hz1 hz2 rfl (by decide) _ _ _ rfl (H5.out) _ (l.length - i) _ ((l.drop i).flatMap Ver.cells) rfl ?_ ?_ hone ?_ ?_ ?_ ?_)
                · rw [flat_len Ver.cells 4 (fun _ => rfl), List.length_drop]
                · exact VS.shift (h.below (b4.trans (b5.mono (by omega))) (Nat.le_refl _)) hil
                · rw [hl5]; simp only [maxLen]; omega
                · rw [hl5]; omega
                · have := b5.size; omega
                intro v' w6 hown' hgrow _
                have b6 : Below (w.heap.size + 1) w5 w6 := (Below.refl _ _).grown hgrow (by have := b5.size; omega) (fun k hk => (H5.out.lt k hk).1)
                have ho6 : OwnV w6 (w.heap.size + 1) v' (rPutL l v) := by
                  rw [HL2.out, show l.take i ++ v :: l.drop i = (l.take i ++ [v]) ++ l.drop i from by simp]
                  exact OwnV.app hown' (by rw [List.length_append, hl5, List.length_drop]) (by simp)
                obtain ⟨A6, c6, rfl, hlc6, hcm6, hvs6⟩ := ho6.form
                go_wp2
                go_ret2
                rw [HP.out]
                exact ⟨A6, c6, rfl, hlc6, hcm6, hvs6, b4.trans ((b5.trans b6).mono (by omega))⟩
              · unfold VAt at c1
                go_wp2_with (at_builtin; refine wpList_append_rd _ rfl _ _ 22 rfl (w.heap.size + 1) 44 i0 _ 4 32 Try.underlying22 hi hz0 hz1 hz2 rfl (by decide) _ _ _ rfl (OwnV.below HO4.out ((Below.refl _ _).alloc (Nat.le_refl _) _)) (some ⟨w4.heap.size, 0, none⟩) 1 1 (Ver.cells l[i]) rfl rfl (Rd.new_row _ _ _) (by simpa using ver_one [l[i]]) ?_ ?_ ?_ ?_)
                · simp only [maxLen, List.length_take]; omega
                · simp only [List.length_take]; omega
                · simp; omega
                intro v' w5 hown' hgrow _
                have b5 : Below (w.heap.size + 1) w4 w5 := ((Below.refl _ _).alloc (by omega) _).grown hgrow (by simp; omega) (fun k hk => (HO4.out.lt k hk).1)
                go_wp2
                go_roundw
                case rel =>
                  refine ⟨i + 1, by omega, by go_num, fun j hj hji => ?_, ?_, b4.trans (b5.mono (by omega)), n5.below b5 (by omega)⟩
                  · rcases Nat.lt_succ_iff_lt_or_eq.1 hji with hji | rfl
                    · exact HA.out j hj hji
                    · exact hq
                  · rw [List.take_succ_eq_append_getElem hlt]
                    exact OwnV.snoc hown' (by simp; omega) rfl
                case measure => simp [intOf]; omega
            · have hwr : w.heap.size < wr.heap.size := hn4.lt
              have nf := hn4.fut hwr
              unfold VAt at nf
              have HN := hide hn4
              clear hn4
              by_cases hci : c = i
              all_goals
                have hi3 : decide ((i : Int) < l.length) = false := by simp; omega
                go_wp2_with fail
                refine wp_region_fut wr.heap.size (by kernel_rfl) (by kernel_rfl) ?_
                repeat (go_big_quiet_step ((first | fail)))
                refine wpQuiet_nil ?_
                intro w4 hq'; have hb4 := Fut.of hq'; clear hq'
                clear nf
                have hs4 := hb4.size
                have n5 := HN.out.below hb4 hwr
                have b4 : Below w.heap.size w w4 := hbr.trans (hb4.mono (by omega))
                have HO4 := hide (OwnV.below HO.out hb4)
                have hpl : rPutL l v = l.take i ++ v :: l.drop i := by
                  have := while_at (fun x : Ver => ltB x.key x.ts v.key v.ts) l i hil HA.out (fun hh => absurd hh hlt)
                  unfold rPutL
                  rw [this.1, this.2]
                have HL2 := hide hpl
                clear hpl
                unfold VAt at n5
                go_wp2_with (at_builtin; refine wpList_append_rd _ rfl _ _ 22 rfl (w.heap.size + 1) 44 i0 _ 4 32 Try.underlying22 hi hz0 hz1 hz2 rfl (by decide) _ _ _ rfl (OwnV.below HO4.out ((Below.refl _ _).alloc (Nat.le_refl _) _)) (some ⟨w4.heap.size, 0, none⟩) 1 1 (Ver.cells v) rfl rfl (Rd.new_row _ _ _) (by simpa using ver_one [v]) ?_ ?_ ?_ ?_)
                · simp only [maxLen, List.length_take]; omega
                · simp only [List.length_take]; omega
                · simp; omega
                intro v' w5 hown' hgrow _
                have b5 : Below (w.heap.size + 1) w4 w5 := ((Below.refl _ _).alloc (by omega) _).grown hgrow (by simp; omega) (fun k hk => (HO4.out.lt k hk).1)
                have ho5 := OwnV.snoc hown' (by simp; omega) rfl
                have H5 := hide ho5
                clear hown' hgrow ho5
                have hl5 : (l.take i ++ [v]).length = i + 1 := by simp; omega
                have hone : ∀ u ∈ (l.drop i).flatMap Ver.cells, u.oneCell' = true := ver_one _
                go_wp2_with (at_builtin; refine wpList_append_rd _ rfl _ _ 22 rfl (w.heap.size + 1) 44 i0 _ 4 32 Try.underlying22 hi hz0 hz1 hz2 rfl (by decide) _ _ _ rfl (H5.out) _ (l.length - i) _ ((l.drop i).flatMap Ver.cells) rfl ?_ ?_ hone ?_ ?_ ?_ ?_)
                · rw [flat_len Ver.cells 4 (fun _ => rfl), List.length_drop]
                · rw [List.drop_eq_nil_of_le (by omega)]; exact Rd.nil _ _
                · rw [hl5]; simp only [maxLen]; omega
                · rw [hl5]; omega
                · have := b5.size; omega
                intro v' w6 hown' hgrow _
                have b6 : Below (w.heap.size + 1) w5 w6 := (Below.refl _ _).grown hgrow (by have := b5.size; omega) (fun k hk => (H5.out.lt k hk).1)
                have ho6 : OwnV w6 (w.heap.size + 1) v' (rPutL l v) := by
                  rw [HL2.out, show l.take i ++ v :: l.drop i = (l.take i ++ [v]) ++ l.drop i from by simp]
                  exact OwnV.app hown' (by rw [List.length_append, hl5, List.length_drop]) (by simp)
                obtain ⟨A6, c6, rfl, hlc6, hcm6, hvs6⟩ := ho6.form
                go_wp2
                go_ret2
                rw [HP.out]
                exact ⟨A6, c6, rfl, hlc6, hcm6, hvs6, b4.trans ((b5.trans b6).mono (by omega))⟩
end Go.Proofs.Ytficjpfhakggmaa
