/-
  The walk of the law VersionsNewest.
-/
import Derived.Test.YtejpfcomgamhjaaLp33
namespace Go.Proofs.Ytejpfcomgamhjaa
open Go.RowKit
/-- one of the first versions of a key has a timestamp, or this is 0 -/
def hasK (l : List Ver) (key n : Int) (k : Nat) : Bool := (n == 0) || (l.take k).any (fun x => x.key == key && x.ts == n)
theorem hasK_step {l : List Ver} {key n : Int} {k : Nat} (hk : k < l.length) : hasK l key n (k + 1) = (hasK l key n k || (l[k].key == key && l[k].ts == n)) := by
  unfold hasK
  rw [List.take_succ_eq_append_getElem hk, List.any_append]
  simp [Bool.or_assoc]
theorem hasK_all {l : List Ver} {key : Int} : hasK l key (newestR l key) l.length = true := by
  unfold hasK
  rw [List.take_length]
  have hin := newestR_in (l := l) (k := key) (b := 0)
  change newestR l key = 0 ∨ ∃ v ∈ l, v.key = key ∧ v.ts = newestR l key at hin
  rcases hin with h | ⟨v, hv, hk, ht⟩
  · simp [h]
  · rw [Bool.or_eq_true, List.any_eq_true]
    exact .inr ⟨v, hv, by simp [hk, ht]⟩
set_option maxHeartbeats 4000000 in
theorem newest_walk (A : Option Addr) (c : Nat) (l : List Ver) (v : Ver) (w : World) (hn : l.length ≤ 9223372036854775807) (h : VS w A l) :
    Calls Try.prog 14 #[.slice A l.length c, .agg #[.int .i64 v.key, .int .i64 v.ts, .int .i64 v.value, .bool v.gone]] w
      fun e w' => e = .returned (.bool true) ∧ Below w.heap.size w w' := by
  have HH := hide head_any
  have b0 : Below w.heap.size w (w.alloc (.cells #[.int .i64 v.key, .int .i64 v.ts, .int .i64 v.value, .bool v.gone] 40)) := (Below.refl _ _).alloc (Nat.le_refl _) _
  have s0 := h.then_ b0
  have n0 : VAt (w.alloc (.cells #[.int .i64 v.key, .int .i64 v.ts, .int .i64 v.value, .bool v.gone] 40)) w.heap.size 0 v := VAt.new rfl
  have BB := hide b0
  have S := hide s0
  have N := hide n0
  clear b0 s0 n0
  have U0 := fun W (s : VS W A l) => usable_any A c l W hn s
  have W0 := fun W => rVersion_any v.key v.ts v.value v.gone W
  cases hu : usableB l
  · rw [hu] at U0
    have U1 := hide U0
    clear U0 hu W0
    go_enter Try.func14, Try.ntmps14
    go_wp2_with (first
            | (go_at_call 30; refine (HH.out _).mono ?_; rintro e w1 ⟨rfl, hb⟩; have S := hide (S.out.then_ hb); have BB := hide (thenB BB.out hb); have n1 := N.out.then_ hb; clear N; have N := hide n1; clear n1 hb)
            | (go_at_call 38; refine (U1.out _ S.out).mono ?_; rintro e w2 ⟨rfl, hb⟩; have S := hide (S.out.then_ hb); have BB := hide (thenB BB.out hb); have n1 := N.out.then_ hb; clear N; have N := hide n1; unfold VAt at n1; clear hb)
            | (go_at_call 31; refine (P1.out _ S.out).mono ?_; rintro e w3 ⟨A3, c3, rfl, hl3, hm3, hs3, hb⟩; have L1 := hide (Nat.le_trans hl3 hm3); have S := hide (S.out.then_ hb); have BB := hide (thenB BB.out hb); have n3 := N.out.then_ hb; clear N n1; have N := hide n3; clear n3; have T1 := hide hs3; clear hb hs3)
            | (go_at_call 29; with_reducible refine (CA1.out _ S.out).mono ?_; rintro e w7 ⟨rfl, hb⟩; have T1 := hide (VS.alloc (T1.out.then_ hb) (.cells #[.int .i64 ak, .int .i64 at_, .int .i64 av, .bool ag] 40)); have N := hide (VAt.alloc (N.out.then_ hb) (.cells #[.int .i64 ak, .int .i64 at_, .int .i64 av, .bool ag] 40)); have BB := hide (thenB (thenB BB.out hb) ((Below.refl _ _).alloc (Nat.le_refl _) (.cells #[.int .i64 ak, .int .i64 at_, .int .i64 av, .bool ag] 40))); clear hb)
            | (go_at_call 29; with_reducible refine (CA2.out _ _ _ L1.out T1.out).mono ?_; rintro e w8 ⟨rfl, hb⟩; have q := (Blk.new _ _ _).below hb (by simp); have Q := hide q; have T1 := hide (VS.alloc (T1.out.then_ hb) (.cells #[.int .i64 bk, .int .i64 bt, .int .i64 bv, .bool bg] 40)); have BB := hide (thenB (thenB BB.out hb) ((Below.refl _ _).alloc (Nat.le_refl _) (.cells #[.int .i64 bk, .int .i64 bt, .int .i64 bv, .bool bg] 40))); have n8 := N.out.then_ hb; have l8 := n8.lt; unfold VAt at n8; clear hb; have l2 := Q.out.lt; have ne1 : ¬ w8.heap.size = w7.heap.size := (by omega); have ne2 : ¬ w7.heap.size = w8.heap.size := (by omega); have ne3 : ¬ w8.heap.size = w.heap.size := (by omega); have ne4 : ¬ w.heap.size = w8.heap.size := (by omega); have q2c := Q.out.cell; have q2f := Q.out.frozen; clear q)
            | (go_at_call 27; with_reducible refine (V1.out _ _ _ L1.out T1.out).mono ?_; rintro e w9 ⟨rfl, hb⟩; have BB := hide (thenB BB.out hb); clear hb))
    go_ret
    exact ⟨rfl, BB.out⟩
  · rw [hu] at U0
    have U1 := hide U0
    obtain ⟨h60, hst⟩ := usable_sto hu
    clear U0 hu
    cases hw : wfB v
    · have hw' : wfB ⟨v.key, v.ts, v.value, v.gone⟩ = false := hw
      rw [hw'] at W0
      have W1 := hide W0
      clear W0 hw hw'
      go_enter Try.func14, Try.ntmps14
      go_wp2_with (first | (first
              | (go_at_call 30; refine (HH.out _).mono ?_; rintro e w1 ⟨rfl, hb⟩; have S := hide (S.out.then_ hb); have BB := hide (thenB BB.out hb); have n1 := N.out.then_ hb; clear N; have N := hide n1; clear n1 hb)
              | (go_at_call 38; refine (U1.out _ S.out).mono ?_; rintro e w2 ⟨rfl, hb⟩; have S := hide (S.out.then_ hb); have BB := hide (thenB BB.out hb); have n1 := N.out.then_ hb; clear N; have N := hide n1; unfold VAt at n1; clear hb)
              | (go_at_call 31; refine (P1.out _ S.out).mono ?_; rintro e w3 ⟨A3, c3, rfl, hl3, hm3, hs3, hb⟩; have L1 := hide (Nat.le_trans hl3 hm3); have S := hide (S.out.then_ hb); have BB := hide (thenB BB.out hb); have n3 := N.out.then_ hb; clear N n1; have N := hide n3; clear n3; have T1 := hide hs3; clear hb hs3)
              | (go_at_call 29; with_reducible refine (CA1.out _ S.out).mono ?_; rintro e w7 ⟨rfl, hb⟩; have T1 := hide (VS.alloc (T1.out.then_ hb) (.cells #[.int .i64 ak, .int .i64 at_, .int .i64 av, .bool ag] 40)); have N := hide (VAt.alloc (N.out.then_ hb) (.cells #[.int .i64 ak, .int .i64 at_, .int .i64 av, .bool ag] 40)); have BB := hide (thenB (thenB BB.out hb) ((Below.refl _ _).alloc (Nat.le_refl _) (.cells #[.int .i64 ak, .int .i64 at_, .int .i64 av, .bool ag] 40))); clear hb)
              | (go_at_call 29; with_reducible refine (CA2.out _ _ _ L1.out T1.out).mono ?_; rintro e w8 ⟨rfl, hb⟩; have q := (Blk.new _ _ _).below hb (by simp); have Q := hide q; have T1 := hide (VS.alloc (T1.out.then_ hb) (.cells #[.int .i64 bk, .int .i64 bt, .int .i64 bv, .bool bg] 40)); have BB := hide (thenB (thenB BB.out hb) ((Below.refl _ _).alloc (Nat.le_refl _) (.cells #[.int .i64 bk, .int .i64 bt, .int .i64 bv, .bool bg] 40))); have n8 := N.out.then_ hb; have l8 := n8.lt; unfold VAt at n8; clear hb; have l2 := Q.out.lt; have ne1 : ¬ w8.heap.size = w7.heap.size := (by omega); have ne2 : ¬ w7.heap.size = w8.heap.size := (by omega); have ne3 : ¬ w8.heap.size = w.heap.size := (by omega); have ne4 : ¬ w.heap.size = w8.heap.size := (by omega); have q2c := Q.out.cell; have q2f := Q.out.frozen; clear q)
              | (go_at_call 27; with_reducible refine (V1.out _ _ _ L1.out T1.out).mono ?_; rintro e w9 ⟨rfl, hb⟩; have BB := hide (thenB BB.out hb); clear hb)) | (go_at_call 39; refine (W1.out _).mono ?_; rintro e w4 ⟨rfl, hb⟩; have BB := hide (thenB BB.out hb); clear hb))
      go_ret
      exact ⟨rfl, BB.out⟩
    · have hw' : wfB ⟨v.key, v.ts, v.value, v.gone⟩ = true := hw
      rw [hw'] at W0
      have W1 := hide W0
      have hkey : keyB v.key = true := by
        simp only [wfB, Bool.and_eq_true, decide_eq_true_eq] at hw
        simp only [keyB, Bool.and_eq_true, decide_eq_true_eq]
        omega
      have N0 := fun W (s : VS W A l) => newest_any A c l v.key W hn s
      have hnw : newestS l v.key = (newestR l v.key, 0) := by
        unfold newestS
        rw [(sto_iff l).2 hst, hkey, newest_eq hst]; rfl
      rw [hnw] at N0
      have P0 := fun W (s : VS W A l) => put_any A c l v W hn s
      have hge := (newestR_ge (l := l) (k := v.key) (b := 0)).2
      have hall := hasK_all (l := l) (key := v.key)
      have hps : putS l v = if v.ts ≤ newestR l v.key then ([], 30) else (putL l v, 0) := by
        unfold putS
        rw [(sto_iff l).2 hst, hw, newest_eq hst]
        by_cases h1 : v.ts ≤ newestR l v.key
        · simp [h1]
        · simp [h1]; omega
      change ∀ x ∈ l, x.key = v.key → x.ts ≤ newestR l v.key at hge
      obtain ⟨n, hnn⟩ : ∃ n, n = newestR l v.key := ⟨_, rfl⟩
      rw [← hnn] at hge hps N0 hall
      have N1 := hide N0
      have HG := hide hge
      have HA := hide hall
      clear hw hw' W0 N0 hge hall hkey hnw hnn
      obtain ⟨⟨m, pe⟩, hp⟩ : ∃ x, x = putS l v := ⟨_, rfl⟩
      rw [← hp] at P0
      rw [hps] at hp
      have P1 := hide P0
      unfold RetVE at P1
      clear P0 hps
      have hcase : (pe = 30 ∧ decide (n < v.ts) = false) ∨ (pe = 0 ∧ decide (n < v.ts) = true) := by
        by_cases h1 : v.ts ≤ n
        · rw [if_pos h1] at hp
          exact .inl ⟨(Prod.mk.inj hp).2, by simp; omega⟩
        · rw [if_neg h1] at hp
          exact .inr ⟨(Prod.mk.inj hp).2, by simp; omega⟩
      clear hp
      rcases hcase with ⟨rfl, hd⟩ | ⟨rfl, hd⟩
      all_goals
        go_enter Try.func14, Try.ntmps14
        go_wp2_with (first
          | (go_at_call 31; refine (P1.out _ S.out).mono ?_; rintro e w3 ⟨A3, c3, rfl, _, _, _, hb⟩; have S := hide (S.out.then_ hb); have BB := hide (thenB BB.out hb); have n3 := N.out.then_ hb; clear N n1; have N := hide n3; clear n3 hb)
          | (first
                  | (go_at_call 30; refine (HH.out _).mono ?_; rintro e w1 ⟨rfl, hb⟩; have S := hide (S.out.then_ hb); have BB := hide (thenB BB.out hb); have n1 := N.out.then_ hb; clear N; have N := hide n1; clear n1 hb)
                  | (go_at_call 38; refine (U1.out _ S.out).mono ?_; rintro e w2 ⟨rfl, hb⟩; have S := hide (S.out.then_ hb); have BB := hide (thenB BB.out hb); have n1 := N.out.then_ hb; clear N; have N := hide n1; unfold VAt at n1; clear hb)
                  | (go_at_call 31; refine (P1.out _ S.out).mono ?_; rintro e w3 ⟨A3, c3, rfl, hl3, hm3, hs3, hb⟩; have L1 := hide (Nat.le_trans hl3 hm3); have S := hide (S.out.then_ hb); have BB := hide (thenB BB.out hb); have n3 := N.out.then_ hb; clear N n1; have N := hide n3; clear n3; have T1 := hide hs3; clear hb hs3)
                  | (go_at_call 29; with_reducible refine (CA1.out _ S.out).mono ?_; rintro e w7 ⟨rfl, hb⟩; have T1 := hide (VS.alloc (T1.out.then_ hb) (.cells #[.int .i64 ak, .int .i64 at_, .int .i64 av, .bool ag] 40)); have N := hide (VAt.alloc (N.out.then_ hb) (.cells #[.int .i64 ak, .int .i64 at_, .int .i64 av, .bool ag] 40)); have BB := hide (thenB (thenB BB.out hb) ((Below.refl _ _).alloc (Nat.le_refl _) (.cells #[.int .i64 ak, .int .i64 at_, .int .i64 av, .bool ag] 40))); clear hb)
                  | (go_at_call 29; with_reducible refine (CA2.out _ _ _ L1.out T1.out).mono ?_; rintro e w8 ⟨rfl, hb⟩; have q := (Blk.new _ _ _).below hb (by simp); have Q := hide q; have T1 := hide (VS.alloc (T1.out.then_ hb) (.cells #[.int .i64 bk, .int .i64 bt, .int .i64 bv, .bool bg] 40)); have BB := hide (thenB (thenB BB.out hb) ((Below.refl _ _).alloc (Nat.le_refl _) (.cells #[.int .i64 bk, .int .i64 bt, .int .i64 bv, .bool bg] 40))); have n8 := N.out.then_ hb; have l8 := n8.lt; unfold VAt at n8; clear hb; have l2 := Q.out.lt; have ne1 : ¬ w8.heap.size = w7.heap.size := (by omega); have ne2 : ¬ w7.heap.size = w8.heap.size := (by omega); have ne3 : ¬ w8.heap.size = w.heap.size := (by omega); have ne4 : ¬ w.heap.size = w8.heap.size := (by omega); have q2c := Q.out.cell; have q2f := Q.out.frozen; clear q)
                  | (go_at_call 27; with_reducible refine (V1.out _ _ _ L1.out T1.out).mono ?_; rintro e w9 ⟨rfl, hb⟩; have BB := hide (thenB BB.out hb); clear hb))
          | (go_at_call 39; refine (W1.out _).mono ?_; rintro e w4 ⟨rfl, hb⟩; have S := hide (S.out.then_ hb); have BB := hide (thenB BB.out hb); have n1 := N.out.then_ hb; clear N; have N := hide n1; unfold VAt at n1; clear hb)
          | (go_at_call 36; refine (N1.out _ S.out).mono ?_; rintro e w5 ⟨rfl, hb⟩; have S := hide (S.out.then_ hb); have BB := hide (thenB BB.out hb); have n2 := N.out.then_ hb; clear n1 N; have N := hide n2; have n1 := n2; clear n2; unfold VAt at n1; clear hb))
        go_loopw [5, 10, 12, 40] (fun up has _ i wr => ∃ k : Nat, k ≤ l.length ∧ i = .int .i64 k ∧ up = .bool true ∧ has = .bool (hasK l v.key n k) ∧ VS wr A l ∧ VAt wr w.heap.size 0 v ∧ Below w.heap.size w wr) (fun _ _ _ i _ => l.length - (intOf i).toNat)
        case atStart => exact ⟨0, Nat.zero_le _, rfl, rfl, by simp [hasK], S.out, N.out, BB.out⟩
        case round =>
          obtain ⟨k, hk, rfl, rfl, rfl, hs, hv, hb⟩ := hrel
          by_cases hlt : k < l.length
          · obtain ⟨b, o, rfl, hbl, hc⟩ := hs.at_ hlt
            have c0 := hc k hlt
            have lv := hv.lt
            have HS := hide hs
            have HV := hide hv
            have HK := hide (hasK_step (key := v.key) (n := n) hlt)
            have hle : l[k].key = v.key → l[k].ts ≤ n := HG.out _ (List.getElem_mem hlt)
            unfold VAt at c0 hv
            clear hc hs
            obtain ⟨hs, hhs⟩ : ∃ b, b = hasK l v.key n k := ⟨_, rfl⟩
            rw [← hhs] at HK ⊢
            clear hhs
            have ne1 : ¬ wr.heap.size = w.heap.size := by omega
            have ne2 : ¬ w.heap.size = wr.heap.size := by omega
            have hdone : ∀ x, VS (wr.alloc x) (some ⟨b, o, none⟩) l ∧ VAt (wr.alloc x) w.heap.size 0 v ∧ Below w.heap.size w (wr.alloc x) := fun x => ⟨HS.out.alloc x, HV.out.alloc x, hb.alloc hb.size x⟩
            have HD := hide hdone
            clear hdone
            by_cases hq : l[k].key = v.key
            · have q1 : (l[k].key == v.key) = true := by simp [hq]
              have q2 : decide (l[k].ts ≤ n) = true := by simp [hle hq]
              have HQ := hide hq
              clear hq hle
              have hr : hasK l v.key n (k + 1) = (hs || (l[k].ts == n)) := by rw [HK.out, q1, Bool.true_and]
              have HR := hide hr
              clear hr
              cases hs
              all_goals
                go_wp2
                go_roundw
                case rel => exact ⟨k + 1, by omega, by go_num, rfl, by rw [HR.out]; rfl, HD.out _⟩
                case measure => simp [intOf]; omega
            · have q1 : (l[k].key == v.key) = false := by simp [hq]
              have hr : hasK l v.key n (k + 1) = hs := by rw [HK.out, q1, Bool.false_and, Bool.or_false]
              have HR := hide hr
              clear hr hq hle
              go_wp2
              go_roundw
              case rel => exact ⟨k + 1, by omega, by go_num, rfl, by rw [HR.out], HD.out _⟩
              case measure => simp [intOf]; omega
          · have hk2 : hasK l v.key n k = true := by rw [show k = l.length from by omega]; exact HA.out
            rw [hk2]
            unfold VAt at hv
            clear hk2
            go_wp2
            go_ret
            exact ⟨rfl, hb⟩
end Go.Proofs.Ytejpfcomgamhjaa
