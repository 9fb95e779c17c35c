/-
  The walk of the law VersionsPut.
-/
import Derived.Test.YtejpfcomgamhjaaPl33t
import Derived.Test.YtejpfcomgamhjaaLm33
namespace Go.Proofs.Ytejpfcomgamhjaa
open Go.RowKit
theorem usable_sto {l : List Ver} (h : usableB l = true) : l.length ≤ 60 ∧ Sto l := by
  unfold usableB at h
  rw [Bool.and_eq_true, decide_eq_true_eq] at h
  exact ⟨h.1, (sto_iff l).1 h.2⟩
set_option maxHeartbeats 4000000 in
theorem put_walk (A : Option Addr) (c : Nat) (l : List Ver) (vk vt vv : Int) (vg : Bool) (key ts : Int) (w : World) (hn : l.length ≤ 9223372036854775807) (h : VS w A l) :
    Calls Try.prog 10 #[.slice A l.length c, .agg #[.int .i64 vk, .int .i64 vt, .int .i64 vv, .bool vg], .int .i64 key, .int .i64 ts] w
      fun e w' => e = .returned (.bool true) ∧ Below w.heap.size w w' := by
  have HH := hide head_any
  have b0 : Below w.heap.size w (w.alloc (.cells #[.int .i64 vk, .int .i64 vt, .int .i64 vv, .bool vg] 40)) := (Below.refl _ _).alloc (Nat.le_refl _) _
  have s0 := h.then_ b0
  have n0 : VAt (w.alloc (.cells #[.int .i64 vk, .int .i64 vt, .int .i64 vv, .bool vg] 40)) w.heap.size 0 ⟨vk, vt, vv, vg⟩ := VAt.new (v := ⟨vk, vt, vv, vg⟩) rfl
  have BB := hide b0
  have S := hide s0
  have N := hide n0
  clear b0 s0 n0
  have U0 := fun W (s : VS W A l) => usable_any A c l W hn s
  cases hu : usableB l
  · rw [hu] at U0
    have U1 := hide U0
    clear U0 hu
    go_enter Try.func10, Try.ntmps10
    go_wp2_with (first
            | (go_at_call 30; refine (HH.out _).mono ?_; rintro e w1 ⟨rfl, hb⟩; have S := hide (S.out.then_ hb); have BB := hide (thenB BB.out hb); have n1 := N.out.then_ hb; clear N; have N := hide n1; clear n1 hb)
            | (go_at_call 38; refine (U1.out _ S.out).mono ?_; rintro e w2 ⟨rfl, hb⟩; have S := hide (S.out.then_ hb); have BB := hide (thenB BB.out hb); have n1 := N.out.then_ hb; clear N; have N := hide n1; unfold VAt at n1; clear hb)
            | (go_at_call 31; refine (P1.out _ S.out).mono ?_; rintro e w3 ⟨A3, c3, rfl, hl3, hm3, hs3, hb⟩; have L1 := hide (Nat.le_trans hl3 hm3); have S := hide (S.out.then_ hb); have BB := hide (thenB BB.out hb); have n3 := N.out.then_ hb; clear N n1; have N := hide n3; clear n3; have T1 := hide hs3; clear hb hs3)
            | (go_at_call 29; with_reducible refine (CA1.out _ S.out).mono ?_; rintro e w7 ⟨rfl, hb⟩; have T1 := hide (VS.alloc (T1.out.then_ hb) (.cells #[.int .i64 ak, .int .i64 at_, .int .i64 av, .bool ag] 40)); have N := hide (VAt.alloc (N.out.then_ hb) (.cells #[.int .i64 ak, .int .i64 at_, .int .i64 av, .bool ag] 40)); have BB := hide (thenB (thenB BB.out hb) ((Below.refl _ _).alloc (Nat.le_refl _) (.cells #[.int .i64 ak, .int .i64 at_, .int .i64 av, .bool ag] 40))); clear hb)
            | (go_at_call 29; with_reducible refine (CA2.out _ _ _ L1.out T1.out).mono ?_; rintro e w8 ⟨rfl, hb⟩; have q := (Blk.new _ _ _).below hb (by simp); have Q := hide q; have T1 := hide (VS.alloc (T1.out.then_ hb) (.cells #[.int .i64 bk, .int .i64 bt, .int .i64 bv, .bool bg] 40)); have BB := hide (thenB (thenB BB.out hb) ((Below.refl _ _).alloc (Nat.le_refl _) (.cells #[.int .i64 bk, .int .i64 bt, .int .i64 bv, .bool bg] 40))); have n8 := N.out.then_ hb; have l8 := n8.lt; unfold VAt at n8; clear hb; have l2 := Q.out.lt; have ne1 : ¬ w8.heap.size = w7.heap.size := (by omega); have ne2 : ¬ w7.heap.size = w8.heap.size := (by omega); have ne3 : ¬ w8.heap.size = w.heap.size := (by omega); have ne4 : ¬ w.heap.size = w8.heap.size := (by omega); have q2c := Q.out.cell; have q2f := Q.out.frozen; clear q)
            | (go_at_call 27; with_reducible refine (V1.out _ _ _ L1.out T1.out).mono ?_; rintro e w9 ⟨rfl, hb⟩; have BB := hide (thenB BB.out hb); clear hb))
    go_ret
    exact ⟨rfl, BB.out⟩
  · rw [hu] at U0
    have U1 := hide U0
    obtain ⟨h60, hst⟩ := usable_sto hu
    clear U0 hu
    have P0 := fun W (s : VS W A l) => put_any A c l ⟨vk, vt, vv, vg⟩ W hn s
    obtain ⟨⟨m, pe⟩, hp⟩ : ∃ x, x = putS l ⟨vk, vt, vv, vg⟩ := ⟨_, rfl⟩
    rw [← hp] at P0
    have P1 := hide P0
    unfold RetVE at P1
    clear P0
    by_cases he : pe = 0
    · subst he
      obtain ⟨hw, hlt, hl4, rfl, hstm⟩ := put_ok hst hp
      have hlm := putL_len l ⟨vk, vt, vv, vg⟩
      have herr := atS_put_err hst hstm key ts
      have hhit := fun h1 h2 h3 => atS_put_hit (k := key) (t := ts) hst hw hlt hl4 h1 h2 h3
      have hmiss := fun h1 => atS_put_miss (k := key) (t := ts) hst hw hlt hl4 h1
      have v1 := (sto_iff _).2 hstm
      obtain ⟨m, hm⟩ : ∃ m, m = putL l ⟨vk, vt, vv, vg⟩ := ⟨_, rfl⟩
      rw [← hm] at hlm herr hhit hmiss v1 P1
      have A01 := fun W (s : VS W A l) => at_any A c l key ts W hn s
      have A02 := fun (B : Option Addr) (d : Nat) (W : World) (hmn : m.length ≤ maxLen) (s : VS W B m) => at_any B d m key ts W hmn s
      have V0 := fun (B : Option Addr) (d : Nat) (W : World) (hmn : m.length ≤ maxLen) (s : VS W B m) => valid_any B d m W hmn s
      rw [v1] at V0
      have V1 := hide V0
      obtain ⟨⟨⟨ak, at_, av, ag⟩, is_, f⟩, ha⟩ : ∃ x, x = atS l key ts := ⟨_, rfl⟩
      obtain ⟨⟨⟨bk, bt, bv, bg⟩, was, g⟩, hb⟩ : ∃ x, x = atS m key ts := ⟨_, rfl⟩
      rw [← ha] at herr hhit hmiss A01
      rw [← hb] at herr hhit hmiss A02
      change g = f at herr
      subst herr
      have CA1 := hide A01
      have CA2 := hide A02
      unfold RetVBE at CA1 CA2
      have hlmI : ((m.length : Int) == (l.length : Int) + 1) = true := by simp; omega
      have hwr : IntKind.i64.wrap ((l.length : Int) + 1) = (l.length : Int) + 1 := IntWalk.i64_in _ (by omega)
      clear A01 A02 V0 v1 hm ha hb hp hw hlt hl4 hstm hst
      by_cases hf : g = 0
      · subst hf
        by_cases hit : vk = key ∧ vt ≤ ts
        · have hr := hhit hit.1 hit.2 rfl
          have g1 : (key == vk) = true := by simp [hit.1]
          have g2 : decide (vt ≤ ts) = true := by simp [hit.2]
          have HM := hide hlm
          have HR := hide hr
          clear hr hit hhit hmiss hlm
          cases vg
          · have hr := HR.out
            rw [if_neg (by simp)] at hr
            injection hr with h1 h2
            injection h1 with h1 h3 h4 h5
            injection h2 with h2 h6
            have e8 : eqB bk bt bv bg vk vt vv false = true := by simp [eqB, h1, h3, h4, h5]
            subst h2
            clear HR h6 h1 h3 h4 h5
            go_enter Try.func10, Try.ntmps10
            go_wp2_with (first
                    | (go_at_call 30; refine (HH.out _).mono ?_; rintro e w1 ⟨rfl, hb⟩; have S := hide (S.out.then_ hb); have BB := hide (thenB BB.out hb); have n1 := N.out.then_ hb; clear N; have N := hide n1; clear n1 hb)
                    | (go_at_call 38; refine (U1.out _ S.out).mono ?_; rintro e w2 ⟨rfl, hb⟩; have S := hide (S.out.then_ hb); have BB := hide (thenB BB.out hb); have n1 := N.out.then_ hb; clear N; have N := hide n1; unfold VAt at n1; clear hb)
                    | (go_at_call 31; refine (P1.out _ S.out).mono ?_; rintro e w3 ⟨A3, c3, rfl, hl3, hm3, hs3, hb⟩; have L1 := hide (Nat.le_trans hl3 hm3); have S := hide (S.out.then_ hb); have BB := hide (thenB BB.out hb); have n3 := N.out.then_ hb; clear N n1; have N := hide n3; clear n3; have T1 := hide hs3; clear hb hs3)
                    | (go_at_call 29; with_reducible refine (CA1.out _ S.out).mono ?_; rintro e w7 ⟨rfl, hb⟩; have T1 := hide (VS.alloc (T1.out.then_ hb) (.cells #[.int .i64 ak, .int .i64 at_, .int .i64 av, .bool ag] 40)); have N := hide (VAt.alloc (N.out.then_ hb) (.cells #[.int .i64 ak, .int .i64 at_, .int .i64 av, .bool ag] 40)); have BB := hide (thenB (thenB BB.out hb) ((Below.refl _ _).alloc (Nat.le_refl _) (.cells #[.int .i64 ak, .int .i64 at_, .int .i64 av, .bool ag] 40))); clear hb)
                    | (go_at_call 29; with_reducible refine (CA2.out _ _ _ L1.out T1.out).mono ?_; rintro e w8 ⟨rfl, hb⟩; have q := (Blk.new _ _ _).below hb (by simp); have Q := hide q; have T1 := hide (VS.alloc (T1.out.then_ hb) (.cells #[.int .i64 bk, .int .i64 bt, .int .i64 bv, .bool bg] 40)); have BB := hide (thenB (thenB BB.out hb) ((Below.refl _ _).alloc (Nat.le_refl _) (.cells #[.int .i64 bk, .int .i64 bt, .int .i64 bv, .bool bg] 40))); have n8 := N.out.then_ hb; have l8 := n8.lt; unfold VAt at n8; clear hb; have l2 := Q.out.lt; have ne1 : ¬ w8.heap.size = w7.heap.size := (by omega); have ne2 : ¬ w7.heap.size = w8.heap.size := (by omega); have ne3 : ¬ w8.heap.size = w.heap.size := (by omega); have ne4 : ¬ w.heap.size = w8.heap.size := (by omega); have q2c := Q.out.cell; have q2f := Q.out.frozen; clear q)
                    | (go_at_call 27; with_reducible refine (V1.out _ _ _ L1.out T1.out).mono ?_; rintro e w9 ⟨rfl, hb⟩; have BB := hide (thenB BB.out hb); clear hb))
            go_ret
            exact ⟨rfl, BB.out⟩
          · have hr := HR.out
            rw [if_pos rfl] at hr
            injection hr with h1 h2
            injection h2 with h2 h6
            subst h2
            clear HR h6 h1
            go_enter Try.func10, Try.ntmps10
            go_wp2_with (first
                    | (go_at_call 30; refine (HH.out _).mono ?_; rintro e w1 ⟨rfl, hb⟩; have S := hide (S.out.then_ hb); have BB := hide (thenB BB.out hb); have n1 := N.out.then_ hb; clear N; have N := hide n1; clear n1 hb)
                    | (go_at_call 38; refine (U1.out _ S.out).mono ?_; rintro e w2 ⟨rfl, hb⟩; have S := hide (S.out.then_ hb); have BB := hide (thenB BB.out hb); have n1 := N.out.then_ hb; clear N; have N := hide n1; unfold VAt at n1; clear hb)
                    | (go_at_call 31; refine (P1.out _ S.out).mono ?_; rintro e w3 ⟨A3, c3, rfl, hl3, hm3, hs3, hb⟩; have L1 := hide (Nat.le_trans hl3 hm3); have S := hide (S.out.then_ hb); have BB := hide (thenB BB.out hb); have n3 := N.out.then_ hb; clear N n1; have N := hide n3; clear n3; have T1 := hide hs3; clear hb hs3)
                    | (go_at_call 29; with_reducible refine (CA1.out _ S.out).mono ?_; rintro e w7 ⟨rfl, hb⟩; have T1 := hide (VS.alloc (T1.out.then_ hb) (.cells #[.int .i64 ak, .int .i64 at_, .int .i64 av, .bool ag] 40)); have N := hide (VAt.alloc (N.out.then_ hb) (.cells #[.int .i64 ak, .int .i64 at_, .int .i64 av, .bool ag] 40)); have BB := hide (thenB (thenB BB.out hb) ((Below.refl _ _).alloc (Nat.le_refl _) (.cells #[.int .i64 ak, .int .i64 at_, .int .i64 av, .bool ag] 40))); clear hb)
                    | (go_at_call 29; with_reducible refine (CA2.out _ _ _ L1.out T1.out).mono ?_; rintro e w8 ⟨rfl, hb⟩; have q := (Blk.new _ _ _).below hb (by simp); have Q := hide q; have T1 := hide (VS.alloc (T1.out.then_ hb) (.cells #[.int .i64 bk, .int .i64 bt, .int .i64 bv, .bool bg] 40)); have BB := hide (thenB (thenB BB.out hb) ((Below.refl _ _).alloc (Nat.le_refl _) (.cells #[.int .i64 bk, .int .i64 bt, .int .i64 bv, .bool bg] 40))); have n8 := N.out.then_ hb; have l8 := n8.lt; unfold VAt at n8; clear hb; have l2 := Q.out.lt; have ne1 : ¬ w8.heap.size = w7.heap.size := (by omega); have ne2 : ¬ w7.heap.size = w8.heap.size := (by omega); have ne3 : ¬ w8.heap.size = w.heap.size := (by omega); have ne4 : ¬ w.heap.size = w8.heap.size := (by omega); have q2c := Q.out.cell; have q2f := Q.out.frozen; clear q)
                    | (go_at_call 27; with_reducible refine (V1.out _ _ _ L1.out T1.out).mono ?_; rintro e w9 ⟨rfl, hb⟩; have BB := hide (thenB BB.out hb); clear hb))
            go_ret
            exact ⟨rfl, BB.out⟩
        · have hr := hmiss hit
          injection hr with h1 h2
          injection h1 with h1 h3 h4 h5
          injection h2 with h2 h6
          have g1 : (key == vk) = false ∨ (key == vk) = true ∧ decide (vt ≤ ts) = false := by
            simp only [beq_eq_false_iff_ne, beq_iff_eq, decide_eq_false_iff_not]
            omega
          have e7 : (is_ == was) = true := by simp [h2]
          have e8 : eqB ak at_ av ag bk bt bv bg = true := by simp [eqB, h1, h3, h4, h5]
          have HM := hide hlm
          clear hit hhit hmiss hlm h6 h1 h2 h3 h4 h5
          rcases g1 with g1 | ⟨g1, g2⟩
          all_goals
            go_enter Try.func10, Try.ntmps10
            go_wp2_with (first
                    | (go_at_call 30; refine (HH.out _).mono ?_; rintro e w1 ⟨rfl, hb⟩; have S := hide (S.out.then_ hb); have BB := hide (thenB BB.out hb); have n1 := N.out.then_ hb; clear N; have N := hide n1; clear n1 hb)
                    | (go_at_call 38; refine (U1.out _ S.out).mono ?_; rintro e w2 ⟨rfl, hb⟩; have S := hide (S.out.then_ hb); have BB := hide (thenB BB.out hb); have n1 := N.out.then_ hb; clear N; have N := hide n1; unfold VAt at n1; clear hb)
                    | (go_at_call 31; refine (P1.out _ S.out).mono ?_; rintro e w3 ⟨A3, c3, rfl, hl3, hm3, hs3, hb⟩; have L1 := hide (Nat.le_trans hl3 hm3); have S := hide (S.out.then_ hb); have BB := hide (thenB BB.out hb); have n3 := N.out.then_ hb; clear N n1; have N := hide n3; clear n3; have T1 := hide hs3; clear hb hs3)
                    | (go_at_call 29; with_reducible refine (CA1.out _ S.out).mono ?_; rintro e w7 ⟨rfl, hb⟩; have T1 := hide (VS.alloc (T1.out.then_ hb) (.cells #[.int .i64 ak, .int .i64 at_, .int .i64 av, .bool ag] 40)); have N := hide (VAt.alloc (N.out.then_ hb) (.cells #[.int .i64 ak, .int .i64 at_, .int .i64 av, .bool ag] 40)); have BB := hide (thenB (thenB BB.out hb) ((Below.refl _ _).alloc (Nat.le_refl _) (.cells #[.int .i64 ak, .int .i64 at_, .int .i64 av, .bool ag] 40))); clear hb)
                    | (go_at_call 29; with_reducible refine (CA2.out _ _ _ L1.out T1.out).mono ?_; rintro e w8 ⟨rfl, hb⟩; have q := (Blk.new _ _ _).below hb (by simp); have Q := hide q; have T1 := hide (VS.alloc (T1.out.then_ hb) (.cells #[.int .i64 bk, .int .i64 bt, .int .i64 bv, .bool bg] 40)); have BB := hide (thenB (thenB BB.out hb) ((Below.refl _ _).alloc (Nat.le_refl _) (.cells #[.int .i64 bk, .int .i64 bt, .int .i64 bv, .bool bg] 40))); have n8 := N.out.then_ hb; have l8 := n8.lt; unfold VAt at n8; clear hb; have l2 := Q.out.lt; have ne1 : ¬ w8.heap.size = w7.heap.size := (by omega); have ne2 : ¬ w7.heap.size = w8.heap.size := (by omega); have ne3 : ¬ w8.heap.size = w.heap.size := (by omega); have ne4 : ¬ w.heap.size = w8.heap.size := (by omega); have q2c := Q.out.cell; have q2f := Q.out.frozen; clear q)
                    | (go_at_call 27; with_reducible refine (V1.out _ _ _ L1.out T1.out).mono ?_; rintro e w9 ⟨rfl, hb⟩; have BB := hide (thenB BB.out hb); clear hb))
            go_ret
            exact ⟨rfl, BB.out⟩
      · have hf' : (g != 0) = true := by simp [hf]
        have e2 : (g == g) = true := by simp
        have HM := hide hlm
        clear hhit hmiss hf hlm
        go_enter Try.func10, Try.ntmps10
        go_wp2_with (first
                | (go_at_call 30; refine (HH.out _).mono ?_; rintro e w1 ⟨rfl, hb⟩; have S := hide (S.out.then_ hb); have BB := hide (thenB BB.out hb); have n1 := N.out.then_ hb; clear N; have N := hide n1; clear n1 hb)
                | (go_at_call 38; refine (U1.out _ S.out).mono ?_; rintro e w2 ⟨rfl, hb⟩; have S := hide (S.out.then_ hb); have BB := hide (thenB BB.out hb); have n1 := N.out.then_ hb; clear N; have N := hide n1; unfold VAt at n1; clear hb)
                | (go_at_call 31; refine (P1.out _ S.out).mono ?_; rintro e w3 ⟨A3, c3, rfl, hl3, hm3, hs3, hb⟩; have L1 := hide (Nat.le_trans hl3 hm3); have S := hide (S.out.then_ hb); have BB := hide (thenB BB.out hb); have n3 := N.out.then_ hb; clear N n1; have N := hide n3; clear n3; have T1 := hide hs3; clear hb hs3)
                | (go_at_call 29; with_reducible refine (CA1.out _ S.out).mono ?_; rintro e w7 ⟨rfl, hb⟩; have T1 := hide (VS.alloc (T1.out.then_ hb) (.cells #[.int .i64 ak, .int .i64 at_, .int .i64 av, .bool ag] 40)); have N := hide (VAt.alloc (N.out.then_ hb) (.cells #[.int .i64 ak, .int .i64 at_, .int .i64 av, .bool ag] 40)); have BB := hide (thenB (thenB BB.out hb) ((Below.refl _ _).alloc (Nat.le_refl _) (.cells #[.int .i64 ak, .int .i64 at_, .int .i64 av, .bool ag] 40))); clear hb)
                | (go_at_call 29; with_reducible refine (CA2.out _ _ _ L1.out T1.out).mono ?_; rintro e w8 ⟨rfl, hb⟩; have q := (Blk.new _ _ _).below hb (by simp); have Q := hide q; have T1 := hide (VS.alloc (T1.out.then_ hb) (.cells #[.int .i64 bk, .int .i64 bt, .int .i64 bv, .bool bg] 40)); have BB := hide (thenB (thenB BB.out hb) ((Below.refl _ _).alloc (Nat.le_refl _) (.cells #[.int .i64 bk, .int .i64 bt, .int .i64 bv, .bool bg] 40))); have n8 := N.out.then_ hb; have l8 := n8.lt; unfold VAt at n8; clear hb; have l2 := Q.out.lt; have ne1 : ¬ w8.heap.size = w7.heap.size := (by omega); have ne2 : ¬ w7.heap.size = w8.heap.size := (by omega); have ne3 : ¬ w8.heap.size = w.heap.size := (by omega); have ne4 : ¬ w.heap.size = w8.heap.size := (by omega); have q2c := Q.out.cell; have q2f := Q.out.frozen; clear q)
                | (go_at_call 27; with_reducible refine (V1.out _ _ _ L1.out T1.out).mono ?_; rintro e w9 ⟨rfl, hb⟩; have BB := hide (thenB BB.out hb); clear hb))
        go_ret
        exact ⟨rfl, BB.out⟩
    · have hm := put_bad hp he
      subst hm
      have he' : (pe != 0) = true := by simp [he]
      clear hp he
      go_enter Try.func10, Try.ntmps10
      go_wp2_with (first
              | (go_at_call 30; refine (HH.out _).mono ?_; rintro e w1 ⟨rfl, hb⟩; have S := hide (S.out.then_ hb); have BB := hide (thenB BB.out hb); have n1 := N.out.then_ hb; clear N; have N := hide n1; clear n1 hb)
              | (go_at_call 38; refine (U1.out _ S.out).mono ?_; rintro e w2 ⟨rfl, hb⟩; have S := hide (S.out.then_ hb); have BB := hide (thenB BB.out hb); have n1 := N.out.then_ hb; clear N; have N := hide n1; unfold VAt at n1; clear hb)
              | (go_at_call 31; refine (P1.out _ S.out).mono ?_; rintro e w3 ⟨A3, c3, rfl, hl3, hm3, hs3, hb⟩; have L1 := hide (Nat.le_trans hl3 hm3); have S := hide (S.out.then_ hb); have BB := hide (thenB BB.out hb); have n3 := N.out.then_ hb; clear N n1; have N := hide n3; clear n3; have T1 := hide hs3; clear hb hs3)
              | (go_at_call 29; with_reducible refine (CA1.out _ S.out).mono ?_; rintro e w7 ⟨rfl, hb⟩; have T1 := hide (VS.alloc (T1.out.then_ hb) (.cells #[.int .i64 ak, .int .i64 at_, .int .i64 av, .bool ag] 40)); have N := hide (VAt.alloc (N.out.then_ hb) (.cells #[.int .i64 ak, .int .i64 at_, .int .i64 av, .bool ag] 40)); have BB := hide (thenB (thenB BB.out hb) ((Below.refl _ _).alloc (Nat.le_refl _) (.cells #[.int .i64 ak, .int .i64 at_, .int .i64 av, .bool ag] 40))); clear hb)
              | (go_at_call 29; with_reducible refine (CA2.out _ _ _ L1.out T1.out).mono ?_; rintro e w8 ⟨rfl, hb⟩; have q := (Blk.new _ _ _).below hb (by simp); have Q := hide q; have T1 := hide (VS.alloc (T1.out.then_ hb) (.cells #[.int .i64 bk, .int .i64 bt, .int .i64 bv, .bool bg] 40)); have BB := hide (thenB (thenB BB.out hb) ((Below.refl _ _).alloc (Nat.le_refl _) (.cells #[.int .i64 bk, .int .i64 bt, .int .i64 bv, .bool bg] 40))); have n8 := N.out.then_ hb; have l8 := n8.lt; unfold VAt at n8; clear hb; have l2 := Q.out.lt; have ne1 : ¬ w8.heap.size = w7.heap.size := (by omega); have ne2 : ¬ w7.heap.size = w8.heap.size := (by omega); have ne3 : ¬ w8.heap.size = w.heap.size := (by omega); have ne4 : ¬ w.heap.size = w8.heap.size := (by omega); have q2c := Q.out.cell; have q2f := Q.out.frozen; clear q)
              | (go_at_call 27; with_reducible refine (V1.out _ _ _ L1.out T1.out).mono ?_; rintro e w9 ⟨rfl, hb⟩; have BB := hide (thenB BB.out hb); clear hb))
      go_ret
      exact ⟨rfl, BB.out⟩
end Go.Proofs.Ytejpfcomgamhjaa
