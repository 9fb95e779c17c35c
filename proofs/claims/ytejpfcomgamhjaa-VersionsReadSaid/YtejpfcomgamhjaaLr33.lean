/-
  The walk of the law VersionsRead.
-/
import Derived.Test.YtejpfcomgamhjaaPl33u
import Derived.Test.YtejpfcomgamhjaaLp33
namespace Go.Proofs.Ytejpfcomgamhjaa
open Go.RowKit
theorem any_take {α : Type} (p : α → Bool) {l : List α} {k : Nat} (hk : k < l.length) : (l.take (k + 1)).any p = ((l.take k).any p || p l[k]) := by
  rw [List.take_succ_eq_append_getElem hk, List.any_append]
  simp
theorem atS_err (l : List Ver) (k t : Int) : (atS l k t).2.2 = 0 ∨ (atS l k t).2.2 = 1 := by
  unfold atS
  split
  · exact .inr rfl
  · split <;> exact .inl rfl
set_option maxHeartbeats 4000000 in
theorem read_walk (A : Option Addr) (c : Nat) (l : List Ver) (key ts : Int) (w : World) (hn : l.length ≤ 9223372036854775807) (h : VS w A l) :
    Calls Try.prog 11 #[.slice A l.length c, .int .i64 key, .int .i64 ts] w fun e w' => e = .returned (.bool true) ∧ Below w.heap.size w w' := by
  have HH := hide head_any
  have BB := hide (Below.refl w.heap.size w)
  have S := hide h
  have U0 := fun W (s : VS W A l) => usable_any A c l W hn s
  cases hu : usableB l
  · rw [hu] at U0
    have U1 := hide U0
    clear U0 hu
    go_enter Try.func11, Try.ntmps11
    go_wp2_with (first
      | (go_at_call 30; refine (HH.out _).mono ?_; rintro e w1 ⟨rfl, hb⟩; have S := hide (S.out.then_ hb); have BB := hide (thenB BB.out hb); clear hb)
      | (go_at_call 38; refine (U1.out _ S.out).mono ?_; rintro e w2 ⟨rfl, hb⟩; have S := hide (S.out.then_ hb); have BB := hide (thenB BB.out hb); clear hb))
    go_ret
    exact ⟨rfl, BB.out⟩
  · rw [hu] at U0
    have U1 := hide U0
    obtain ⟨h60, hst⟩ := usable_sto hu
    clear U0 hu
    obtain ⟨⟨rl, re⟩, hr⟩ : ∃ x, x = readS l ts := ⟨_, rfl⟩
    obtain ⟨⟨⟨ak, at_, av, ag⟩, is_, f⟩, ha⟩ : ∃ x, x = atS l key ts := ⟨_, rfl⟩
    have R01 := fun W (s : VS W A l) => read_any A c l ts W hn s
    rw [← hr] at R01
    have A01 := fun W (s : VS W A l) => at_any A c l key ts W hn s
    rw [← ha] at A01
    have R1 := hide R01
    have CA1 := hide A01
    unfold RetVE at R1
    unfold RetVBE at CA1
    clear R01 A01
    by_cases hz : re = 0 ∧ f = 0
    · obtain ⟨rfl, rfl⟩ := hz
      obtain ⟨hup, hmem, hany⟩ := read_at hst hr ha
      have HU := hide hup
      have HM := hide hmem
      have HY := hide hany
      clear hup hmem hany hr ha hst
      go_enter Try.func11, Try.ntmps11
      go_wp2_with (first
        | (go_at_call 30; refine (HH.out _).mono ?_; rintro e w1 ⟨rfl, hb⟩; have S := hide (S.out.then_ hb); have BB := hide (thenB BB.out hb); clear hb)
        | (go_at_call 38; refine (U1.out _ S.out).mono ?_; rintro e w2 ⟨rfl, hb⟩; have S := hide (S.out.then_ hb); have BB := hide (thenB BB.out hb); clear hb)
        | (go_at_call 26; with_reducible refine (R1.out _ S.out).mono ?_; rintro e w7 ⟨A7, c7, rfl, hl7, hm7, hs7, hb⟩; have L1 := hide (Nat.le_trans hl7 hm7); have S := hide (S.out.then_ hb); have BB := hide (thenB BB.out hb); have T1 := hide hs7; clear hb hs7)
        | (go_at_call 29; with_reducible refine (CA1.out _ S.out).mono ?_; rintro e w8 ⟨rfl, hb⟩; have T1 := hide (VS.alloc (T1.out.then_ hb) (.cells #[.int .i64 ak, .int .i64 at_, .int .i64 av, .bool ag] 40)); have N1 := hide (VAt.new (w := w8) (v := ⟨ak, at_, av, ag⟩) (t := 40) rfl); have BB := hide (thenB (thenB BB.out hb) ((Below.refl _ _).alloc (Nat.le_refl _) (.cells #[.int .i64 ak, .int .i64 at_, .int .i64 av, .bool ag] 40))); clear hb))
      go_loopw [13, 14, 15, 52] (fun found _ _ i wr => ∃ k : Nat, k ≤ rl.length ∧ i = .int .i64 k ∧ found = .bool ((rl.take k).any (fun x => x.key == key)) ∧ VS wr A7 rl ∧ VAt wr w8.heap.size 0 ⟨ak, at_, av, ag⟩ ∧ Below w.heap.size w wr) (fun _ _ _ i _ => rl.length - (intOf i).toNat)
      case atStart => exact ⟨0, Nat.zero_le _, rfl, rfl, T1.out, N1.out, BB.out⟩
      case round =>
        obtain ⟨k, hk, rfl, rfl, hs, hv, hb⟩ := hrel
        have l1 := L1.out
        simp only [maxLen] at l1
        by_cases hlt : k < rl.length
        · obtain ⟨b, o, rfl, hbl, hc⟩ := hs.at_ hlt
          have c0 := hc k hlt
          have HC := hide hc
          have lv := hv.lt
          have HS := hide hs
          have HV := hide hv
          have HK := hide (any_take (fun x : Ver => x.key == key) hlt)
          unfold VAt at c0
          clear hc hs
          obtain ⟨fd, hfd⟩ : ∃ b, b = (rl.take k).any (fun x => x.key == key) := ⟨_, rfl⟩
          rw [← hfd] at HK ⊢
          clear hfd
          have hi0 : k - 1 < rl.length := by omega
          have hlt1 : (k : Int) - 1 < (rl.length : Int) := by omega
          have hcase : decide (0 < k) = false ∨ (decide (0 < k) = true ∧ (0 : Int) ≤ (k : Int) - 1) ∧ decide (rl[k].key ≤ rl[k - 1].key) = false := by
            rcases Nat.eq_zero_or_pos k with h0 | h0
            · exact .inl (by simp [h0])
            · refine .inr ⟨⟨by simp [h0], by omega⟩, ?_⟩
              have := List.pairwise_iff_getElem.1 HU.out (k - 1) k hi0 hlt (by omega)
              simp; omega
          have hc2 : (rl[k].key == key) = false ∨ (rl[k].key == key) = true ∧ is_ = true ∧ eqB rl[k].key rl[k].ts rl[k].value rl[k].gone ak at_ av ag = true := by
            by_cases hq : rl[k].key = key
            · obtain ⟨h1, h2⟩ := HM.out _ (List.getElem_mem hlt) hq
              exact .inr ⟨by simp [hq], h1, by rw [h2]; simp [eqB]⟩
            · exact .inl (by simp [hq])
          clear hv
          go_wp2_with fail
          have nb := (VAt.new (w := wr) (v := rl[k]) (t := 40) rfl).fut (B := wr.heap.size + 1) (by omega)
          have m0 := ((HC.out (k - 1) hi0).alloc (.cells #[.int .i64 rl[k].key, .int .i64 rl[k].ts, .int .i64 rl[k].value, .bool rl[k].gone] 40)).fut (B := wr.heap.size + 1) (by omega)
          have na := (HV.out.alloc (.cells #[.int .i64 rl[k].key, .int .i64 rl[k].ts, .int .i64 rl[k].value, .bool rl[k].gone] 40)).fut (B := wr.heap.size + 1) (by omega)
          have nc := VAt.new (w := wr) (v := rl[k]) (t := 40) rfl
          have NC := hide nc
          clear nc
          unfold VAt at nb m0 na
          rcases hcase with d0 | ⟨⟨d0, hnn⟩, hk0⟩
          all_goals
            rcases hc2 with q1 | ⟨q1, rfl, q2⟩
            all_goals
              refine wp_region_fut (wr.heap.size + 1) (by kernel_rfl) (by kernel_rfl) ?_
              repeat (go_big_quiet_step ((first | fail)))
              refine wpQuiet_nil ?_
              intro w4 hq'; have hb4 := Fut.of hq'; clear hq'
              have nc := NC.out.below hb4 (Nat.lt_succ_self _)
              have hb' : Below w.heap.size w w4 := (hb.alloc hb.size _).trans (hb4.mono (by have := hb.size; omega))
              have HS4 := hide (VS.below (HS.out.alloc _) hb4 (by simp))
              have HV4 := hide (((HV.out.alloc _).below hb4 (by omega)))
              unfold VAt at nc
              cases fd
              all_goals
                go_wp2
                go_roundw
                case rel => exact ⟨k + 1, by omega, by go_num, by rw [HK.out, q1]; rfl, HS4.out, HV4.out, hb'⟩
                case measure => simp [intOf]; omega
        · have hd : (rl.take k).any (fun x => x.key == key) = is_ := by rw [List.take_of_length_le (by omega)]; exact HY.out
          rw [hd]
          clear hd
          have e5 : (is_ == is_) = true := by simp
          unfold VAt at hv
          go_wp2
          go_ret
          exact ⟨rfl, hb⟩
    · have hcase := read_at_err hst hr ha
      have hc3 : (re != 0) = true ∧ (re == 0) = false ∧ f = 1 ∨ re = 0 ∧ f = 1 := by
        by_cases h1 : re = 0
        · rcases hcase with _ | h2
          · refine .inr ⟨h1, ?_⟩
            rcases atS_err l key ts with h2 | h2
            · rw [← ha] at h2; exact absurd ⟨h1, h2⟩ hz
            · rw [← ha] at h2; exact h2
          · exact .inr ⟨h1, h2⟩
        · exact .inl ⟨by simp [h1], by simp [h1], by rcases hcase with h2 | h2; exact absurd h2 h1; exact h2⟩
      clear hcase hz hr ha
      rcases hc3 with ⟨q1, q2, rfl⟩ | ⟨rfl, rfl⟩
      all_goals
        go_enter Try.func11, Try.ntmps11
        go_wp2_with (first
          | (go_at_call 30; refine (HH.out _).mono ?_; rintro e w1 ⟨rfl, hb⟩; have S := hide (S.out.then_ hb); have BB := hide (thenB BB.out hb); clear hb)
          | (go_at_call 38; refine (U1.out _ S.out).mono ?_; rintro e w2 ⟨rfl, hb⟩; have S := hide (S.out.then_ hb); have BB := hide (thenB BB.out hb); clear hb)
          | (go_at_call 26; with_reducible refine (R1.out _ S.out).mono ?_; rintro e w7 ⟨A7, c7, rfl, hl7, hm7, hs7, hb⟩; have S := hide (S.out.then_ hb); have BB := hide (thenB BB.out hb); clear hb hs7)
          | (go_at_call 29; with_reducible refine (CA1.out _ S.out).mono ?_; rintro e w8 ⟨rfl, hb⟩; have BB := hide (thenB (thenB BB.out hb) ((Below.refl _ _).alloc (Nat.le_refl _) (.cells #[.int .i64 ak, .int .i64 at_, .int .i64 av, .bool ag] 40))); clear hb))
        go_ret
        exact ⟨rfl, BB.out⟩
end Go.Proofs.Ytejpfcomgamhjaa
