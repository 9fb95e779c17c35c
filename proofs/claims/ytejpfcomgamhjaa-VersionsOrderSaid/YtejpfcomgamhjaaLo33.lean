/-
  The walk of the law VersionsOrder.
-/
import Derived.Test.YtejpfcomgamhjaaPl33v
import Derived.Test.YtejpfcomgamhjaaLp33
import Derived.Test.YtejpfcomgamhjaaStep
namespace Go.Proofs.Ytejpfcomgamhjaa
open Go.RowKit
set_option maxHeartbeats 4000000 in
theorem order_walk (A : Option Addr) (c : Nat) (l : List Ver) (w : World) (hn : l.length ≤ 9223372036854775807) (h : VS w A l) :
    Calls Try.prog 13 #[.slice A l.length c] w fun e w' => e = .returned (.bool true) ∧ Below w.heap.size w w' := by
  have HH := hide head_any
  have BB := hide (Below.refl w.heap.size w)
  have S := hide h
  have U0 := fun W (s : VS W A l) => usable_any A c l W hn s
  cases hu : usableB l
  · rw [hu] at U0
    have U1 := hide U0
    clear U0 hu
    go_enter Try.func13, Try.ntmps13
    go_wp2_with (first
      | (go_at_call 30; refine (HH.out _).mono ?_; rintro e w1 ⟨rfl, hb⟩; have S := hide (S.out.then_ hb); have BB := hide (thenB BB.out hb); clear hb)
      | (go_at_call 38; refine (U1.out _ S.out).mono ?_; rintro e w2 ⟨rfl, hb⟩; have S := hide (S.out.then_ hb); have BB := hide (thenB BB.out hb); clear hb))
    go_ret
    exact ⟨rfl, BB.out⟩
  · rw [hu] at U0
    have U1 := hide U0
    obtain ⟨h60, hst⟩ := usable_sto hu
    have HT := hide hst
    clear U0 hu hst
    obtain ⟨i0, hi, hz0, hz1, hz2⟩ := info_parts infoV
    go_enter Try.func13, Try.ntmps13
    go_wp2_with (first
      | (go_at_call 30; refine (HH.out _).mono ?_; rintro e w1 ⟨rfl, hb⟩; have S := hide (S.out.then_ hb); have BB := hide (thenB BB.out hb); clear hb)
      | (go_at_call 38; refine (U1.out _ S.out).mono ?_; rintro e w2 ⟨rfl, hb⟩; have S := hide (S.out.then_ hb); have BB := hide (thenB BB.out hb); clear hb))
    go_loopw [4, 7, 8, 9, 23] (fun u4 _ _ _ i wr => ∃ (k : Nat) (A4 : Option Addr) (c4 : Nat), k ≤ l.length ∧ i = .int .i64 k ∧ u4 = .slice A4 k c4 ∧ k ≤ c4 ∧ c4 ≤ maxLen ∧ VS wr A4 (l.take k) ∧ VS wr A l ∧ Below w.heap.size w wr) (fun _ _ _ _ i _ => l.length - (intOf i).toNat)
    case atStart => exact ⟨0, none, 0, Nat.zero_le _, rfl, rfl, Nat.le_refl _, Nat.zero_le _, Rd.nil _ _, S.out, BB.out⟩
    case round =>
      obtain ⟨k, A4, c4, hk, rfl, rfl, hkc, hcm, hs4, hs, hb⟩ := hrel
      by_cases hlt : k < l.length
      · obtain ⟨b, o, rfl, hbl, hc⟩ := hs.at_ hlt
        have c0 := hc k hlt
        have P1 := hide fun W (s : VS W A4 (l.take k)) => put_any A4 c4 (l.take k) l[k] W (by simp; omega) s
        rw [put_next HT.out hlt] at P1
        unfold RetVE at P1
        simp only [List.length_take, Nat.min_eq_left hk, Nat.min_eq_left (Nat.succ_le_of_lt hlt)] at P1
        have HS := hide hs
        have S4 := hide (hs4.alloc (.cells #[.int .i64 l[k].key, .int .i64 l[k].ts, .int .i64 l[k].value, .bool l[k].gone] 40))
        have B4 := hide (hb.alloc hb.size (.cells #[.int .i64 l[k].key, .int .i64 l[k].ts, .int .i64 l[k].value, .bool l[k].gone] 40))
        have SA := hide (hs.alloc (.cells #[.int .i64 l[k].key, .int .i64 l[k].ts, .int .i64 l[k].value, .bool l[k].gone] 40))
        unfold VAt at c0
        clear hc hs hs4 hb
        go_wp2_with (go_at_call 31; with_reducible refine (P1.out _ S4.out).mono ?_; rintro e w3 ⟨A3, c3, rfl, hl3, hm3, hs3, hb⟩; have S3 := hide hs3; have SA := hide (SA.out.then_ hb); have B4 := hide (thenB B4.out hb); clear hb hs3)
        go_roundw
        case rel => exact ⟨k + 1, A3, c3, by omega, by go_num, rfl, hl3, hm3, S3.out, SA.out, B4.out⟩
        case measure => simp [intOf]; omega
      · obtain rfl : k = l.length := by omega
        rw [List.take_length] at hs4
        have S := hide hs
        have S4 := hide hs4
        have BB := hide hb
        have hsz := hb.size
        clear hs hs4 hb hlt
        go_wp2_with (at_builtin; refine wpList_append_rd _ rfl _ _ 22 rfl w.heap.size 40 i0 _ 4 32 Try.underlying22 hi hz0 hz1 hz2 rfl (by decide) _ 0 [] rfl (World.ownsRow_made wr #[] 0 hsz (by simp [maxLen]) rfl) A l.length c (l.flatMap Ver.cells) rfl (flat_len _ 4 (fun _ => rfl) l) (S.out.alloc _) (ver_one l) ?_ ?_ ?_ ?_)
        · simp only [maxLen]; omega
        · omega
        · simp; omega
        intro v10 w10 hown hgrow _
        have b10 : Below wr.heap.size wr w10 := ((Below.refl _ _).alloc (Nat.le_refl _) _).grown hgrow (by simp) (fun g hg => by simp [Value.ownBlock] at hg; omega)
        have hown' : OwnV w10 w.heap.size v10 l := by simpa [OwnV] using hown
        obtain ⟨A10, c10, rfl, hlc10, hcm10, hs10⟩ := hown'.form
        have S10 := hide hs10
        have S := hide (S.out.then_ b10)
        have S4 := hide (S4.out.then_ b10)
        have BB := hide (thenB BB.out b10)
        clear hs10 hown hown' hgrow b10
        go_wp2
        go_loopw [5, 10, 11, 12, 13, 14, 15, 42] (fun u5 u10 _ _ _ _ _ i wr => ∃ (k : Nat) (bl left : List Ver) (A5 A10 : Option Addr) (c5 c10 : Nat), k ≤ l.length ∧ i = .int .i64 k ∧ u5 = .slice A5 k c5 ∧ u10 = .slice A10 left.length c10 ∧ left.length ≤ c10 ∧ c10 ≤ maxLen ∧ bl.length = k ∧
          Part l bl left ∧ VS wr A5 bl ∧ VS wr A10 left ∧ VS wr A4 l ∧ VS wr A l ∧ Below w.heap.size w wr) (fun _ _ _ _ _ _ _ i _ => l.length - (intOf i).toNat)
        case atStart => exact ⟨0, [], l, none, A10, 0, c10, Nat.zero_le _, rfl, rfl, rfl, hlc10, hcm10, rfl, Part.start, Rd.nil _ _, S10.out, S4.out, S.out, BB.out⟩
        case round =>
          clear S S4 S10 BB
          obtain ⟨k, bl, left, A5, A10, c5, c10, hk, rfl, rfl, rfl, hlc10, hcm10, hkl, hpart, hs5, hs10, hs4, hs, hb⟩ := hrel
          have hplen := hpart.len
          have HP := hide hpart
          have S5 := hide hs5
          have S10 := hide hs10
          have S4 := hide hs4
          have S := hide hs
          have BB := hide hb
          clear hpart hs5 hs10 hs4 hs hb
          by_cases hlt : k < l.length
          · have hpos : 0 < left.length := by omega
            have hsz := BB.out.size
            go_wp2_with fail
            rename World => wo
            go_loopw [11, 12, 13, 46] (fun u11 _ _ i wi => ∃ j at_ : Nat, j ≤ left.length ∧ at_ < left.length ∧ i = .int .i64 j ∧ u11 = .int .i64 at_ ∧ (∀ m (hm : m < left.length), (h2 : at_ < left.length) → m < j → left[at_].ts ≤ left[m].ts) ∧ Below wo.heap.size wo wi) (fun _ _ _ i _ => left.length - (intOf i).toNat)
            case atStart => exact ⟨0, 0, Nat.zero_le _, hpos, rfl, rfl, fun m hm _ h0 => absurd h0 (Nat.not_lt_zero _), Below.refl _ _⟩
            case round =>
              obtain ⟨j, at_, hj, hat, rfl, rfl, hmin, hbi⟩ := hrel
              have HM := hide hmin
              have hsi := hbi.size
              clear hmin
              have S10i := hide (S10.out.then_ hbi)
              have BI := hide hbi
              clear hbi
              by_cases hjl : j < left.length
              · obtain ⟨b, o, rfl, hbl, hc⟩ := S10i.out.at_ hjl
                have c0 := hc j hjl
                have HC := hide hc
                unfold VAt at c0
                clear hc
                have hI1 : (at_ : Int) < left.length := by omega
                have hI0 : (0 : Int) ≤ at_ := by omega
                go_wp2_with fail
                have nb := (VAt.new (w := wr) (v := left[j]) (t := 40) rfl).fut (B := wr.heap.size + 1) (by omega)
                have na := ((HC.out at_ hat).alloc (.cells #[.int .i64 left[j].key, .int .i64 left[j].ts, .int .i64 left[j].value, .bool left[j].gone] 40)).fut (B := wr.heap.size + 1) (by omega)
                unfold VAt at nb na
                by_cases hq : left[j].ts < left[at_].ts
                · have q1 : decide (left[j].ts < left[at_].ts) = true := decide_eq_true hq
                  have HQ := hide hq
                  clear hq
                  refine wp_region_fut (wr.heap.size + 1) (by kernel_rfl) (by kernel_rfl) ?_
                  repeat (go_big_quiet_step ((first | fail)))
                  refine wpQuiet_nil ?_
                  intro w4 hq'; have hb4 := Fut.of hq'; clear hq'
                  go_wp2
                  go_roundw
                  case rel => exact ⟨j + 1, j, by omega, hjl, by go_num, rfl, fun m hm _ hmj => (by rcases Nat.lt_succ_iff_lt_or_eq.1 hmj with h1 | rfl; exact Int.le_trans (Int.le_of_lt HQ.out) (HM.out m hm hat h1); exact Int.le_refl _), (BI.out.alloc hsi _).trans (hb4.mono (by omega))⟩
                  case measure => simp [intOf]; omega
                · have q1 : decide (left[j].ts < left[at_].ts) = false := decide_eq_false hq
                  have HQ := hide hq
                  clear hq
                  refine wp_region_fut (wr.heap.size + 1) (by kernel_rfl) (by kernel_rfl) ?_
                  repeat (go_big_quiet_step ((first | fail)))
                  refine wpQuiet_nil ?_
                  intro w4 hq'; have hb4 := Fut.of hq'; clear hq'
                  go_wp2
                  go_roundw
                  case rel => exact ⟨j + 1, at_, by omega, hat, by go_num, rfl, fun m hm _ hmj => (by rcases Nat.lt_succ_iff_lt_or_eq.1 hmj with h1 | rfl; exact HM.out m hm hat h1; exact Int.not_lt.1 HQ.out), (BI.out.alloc hsi _).trans (hb4.mono (by omega))⟩
                  case measure => simp [intOf]; omega
              · have hall : ∀ m (hm : m < left.length), left[at_].ts ≤ left[m].ts := fun m hm => HM.out m hm hat (by omega)
                obtain ⟨hput, hnext⟩ := HP.out.next HT.out hat hall
                have hln := hnext.len
                have hbn : (putL bl left[at_]).length = k + 1 := by rw [putL_len]; omega
                have P1 := hide fun W (s : VS W A5 bl) => put_any A5 c5 bl left[at_] W (by omega) s
                rw [hput] at P1
                unfold RetVE at P1
                simp only [hbn, hkl] at P1
                obtain ⟨b, o, rfl, hbl, hc⟩ := S10i.out.at_ hat
                have c0 := hc at_ hat
                unfold VAt at c0
                have hI1 : (at_ : Int) < left.length := by omega
                have hI0 : (0 : Int) ≤ at_ := by omega
                have S5i := hide (S5.out.then_ BI.out)
                have HN := hide hnext
                clear hc hall hput hnext HM
                go_upto_region 27 with (go_at_call 31; with_reducible refine (P1.out _ S5i.out).mono ?_; rintro e w3 ⟨A3, c3, rfl, hl3, hm3, hs3, hb⟩; have S3 := hide hs3; have S10i := hide (S10i.out.then_ hb); have BI := hide (thenB BI.out hb); clear hb hs3)
                have hz3 : w.heap.size ≤ w3.heap.size := by have := BI.out.size; omega
                have hwr : IntKind.i64.wrap ((at_ : Int) + 1) = (at_ : Int) + 1 := IntWalk.i64_in _ (by omega)
                have hI2 : (0 : Int) ≤ (at_ : Int) + 1 := by omega
                have hI3 : (at_ : Int) + 1 ≤ left.length := by omega
                have hI4 : (at_ : Int) ≤ left.length := by omega
                have hI5 : (at_ : Int) ≤ c10 := by omega
                have hI6 : (at_ : Int) + 1 ≤ c10 := by omega
                have F1 : ((left.take at_).flatMap Ver.cells).length = at_ * 4 := by rw [flat_len Ver.cells 4 (fun _ => rfl), List.length_take, Nat.min_eq_left (by omega)]
                have F2 : 0 + at_ ≤ maxLen := by omega
                have F3 : (0 + at_) * 32 ≤ 140737488355328 := by omega
                have H1 := hide F1
                have H2 := hide F2
                have H3 := hide F3
                have F4 : ((left.drop (at_ + 1)).flatMap Ver.cells).length = (left.length - (at_ + 1)) * 4 := by rw [flat_len Ver.cells 4 (fun _ => rfl), List.length_drop]
                have F5 : 0 + at_ + (left.length - (at_ + 1)) ≤ maxLen := by simp only [maxLen]; omega
                have F6 : (0 + at_ + (left.length - (at_ + 1))) * 32 ≤ 140737488355328 := by omega
                have H4 := hide F4
                have H5 := hide F5
                have H6 := hide F6
                have F7 : ∀ W, Below w3.heap.size w3 W → VS W (if c10 = at_ + 1 then some ⟨b, o, none⟩ else some ⟨b, o + (at_ + 1) * 4, none⟩) (left.drop (at_ + 1)) := fun W hW => by
                  split
                  · rw [List.drop_eq_nil_of_le (by omega)]; exact Rd.nil _ _
                  · exact VS.shift (S10i.out.then_ hW) (by omega)
                have H7 := hide F7
                have F8 : ∀ W, (w3.drew.alloc (.cells #[] 40)).grownBy W (some w3.heap.size) → Below w3.heap.size w3 W := fun W hW => ((Below.refl _ _).drew.alloc (Nat.le_refl _) _).grown hW (by simp) (fun g hg => by injection hg with hg; exact Nat.le_of_eq hg)
                have H8 := hide F8
                clear F1 F2 F3 F4 F5 F6 F7 F8
                go_region_law ((first
                  | (refine step_append_rd rfl _ _ 22 (by rfl) w.heap.size 40 i0 _ 4 32 Try.underlying22 hi hz0 hz1 hz2 rfl (by decide) _ 0 [] (by rfl) (World.ownsRow_made _ #[] 0 hz3 (by simp [maxLen]) rfl) _ at_ _ ((left.take at_).flatMap Ver.cells) (by rfl) H1.out ((S10i.out.drew.alloc _).pre) (ver_one _) H2.out H3.out (by simp; omega) ?_; intro v77 w77 ho77 hg77 ht77)
                  | (refine step_append_rd rfl _ _ 22 (by rfl) w.heap.size 40 i0 _ 4 32 Try.underlying22 hi hz0 hz1 hz2 rfl (by decide) _ _ _ (by rfl) ho77 _ (left.length - (at_ + 1)) _ ((left.drop (at_ + 1)).flatMap Ver.cells) (by rfl) H4.out (H7.out _ (H8.out _ hg77)) (ver_one _) H5.out H6.out (by have := (H8.out _ hg77).size; omega) ?_; intro v82 w82 ho82 hg82 _)))
                have b82 : Below w3.heap.size w3 w82 := (H8.out _ hg77).grown hg82 (by have := (H8.out _ hg77).size; omega) (fun g hg => by
                  rcases ht77 with e | e
                  · rw [e] at hg; injection hg with hg; exact Nat.le_of_eq hg
                  · rw [e] at hg; injection hg with hg; simp at hg; omega)
                have hown : OwnV w82 w.heap.size v82 (left.take at_ ++ left.drop (at_ + 1)) := OwnV.app ho82 (by simp; omega) rfl
                obtain ⟨nl, hnl⟩ : ∃ nl, nl = left.take at_ ++ left.drop (at_ + 1) := ⟨_, rfl⟩
                rw [← hnl] at HN hown hln
                obtain ⟨A82, c82, rfl, hlc82, hcm82, hs82⟩ := hown.form
                have S3 := hide (S3.out.then_ b82)
                have S82 := hide hs82
                have BI := hide (thenB BI.out b82)
                clear hown hnl ht77 hs82 b82 ho82 hg82 ho77 hg77 hwr c0 hI0 hI1 hI2 hI3 hI4 hI5 hI6 hz3 H1 H2 H3 H4 H5 H6 H7 H8
                go_wp2
                go_roundw
                case rel => exact ⟨k + 1, putL bl left[at_], nl, A3, A82, c3, c82, by omega, by go_num, rfl, rfl, hlc82, hcm82, hbn, HN.out, S3.out, S82.out, S4.out.then_ BI.out, S.out.then_ BI.out, thenB BB.out BI.out⟩
                case measure => simp [intOf]; omega
          · obtain rfl : left = [] := List.eq_nil_of_length_eq_zero (by omega)
            obtain rfl : bl = l := HP.out.done HT.out
            subst hkl
            have L1 := hide (Nat.le_trans hkc hcm)
            go_wp2_with (first
              | (go_at_call 21; refine (same_self _ _ _ _ bl _ L1.out S4.out S.out).mono ?_; rintro e w9 ⟨rfl, hb⟩; have S5 := hide (S5.out.then_ hb); have S := hide (S.out.then_ hb); have BB := hide (thenB BB.out hb); clear hb S4)
              | (go_at_call 21; refine (same_self _ _ _ _ bl _ L1.out S5.out S.out).mono ?_; rintro e w9 ⟨rfl, hb⟩; have BB := hide (thenB BB.out hb); clear hb))
            go_ret
            exact ⟨rfl, BB.out⟩
end Go.Proofs.Ytejpfcomgamhjaa
