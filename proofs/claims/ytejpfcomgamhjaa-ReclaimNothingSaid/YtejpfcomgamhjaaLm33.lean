/-
  The walk of the law VersionsMatchesReference.
-/
import Derived.Test.YtejpfcomgamhjaaPl33s
import Derived.Test.YtejpfcomgamhjaaHead33
namespace Go.Proofs.Ytejpfcomgamhjaa
open Go.RowKit
/-- slices of versions in a later world -/
theorem VS.then_ {w w' : World} {A : Option Addr} {l : List Ver} (h : VS w A l) (hb : Below w.heap.size w w') : VS w' A l := h.below hb (Nat.le_refl _)
theorem VAt.then_ {w w' : World} {b o : Nat} {v : Ver} (h : VAt w b o v) (hb : Below w.heap.size w w') : VAt w' b o v := h.below hb h.lt
theorem thenB {w w1 w' : World} (h : Below w.heap.size w w1) (hb : Below w1.heap.size w1 w') : Below w.heap.size w w' := h.trans (hb.mono h.size)
theorem VAt.alloc {w : World} {b o : Nat} {v : Ver} (h : VAt w b o v) (x : Obj) : VAt (w.alloc x) b o v := h.below ((Below.refl _ _).alloc (Nat.le_refl _) _) h.lt
theorem same_self (A B : Option Addr) (c d : Nat) (l : List Ver) (w : World) (hn : l.length ≤ 9223372036854775807) (h : VS w A l) (h' : VS w B l) :
    Calls Try.prog 21 #[.slice A l.length c, .slice B l.length d] w fun e w' => e = .returned (.bool true) ∧ Below w.heap.size w w' := by
  have := rSame_any A B c d l l w hn h h'
  rw [show sameB l l = true from decide_eq_true rfl] at this
  exact this
set_option maxHeartbeats 4000000 in
theorem matches_walk (A : Option Addr) (c : Nat) (l : List Ver) (v : Ver) (key ts : Int) (w : World) (hn : l.length ≤ 9223372036854775807) (hlc : l.length ≤ c) (hcm : c ≤ maxLen) (h : VS w A l) :
    Calls Try.prog 9 #[.slice A l.length c, .agg #[.int .i64 v.key, .int .i64 v.ts, .int .i64 v.value, .bool v.gone], .int .i64 key, .int .i64 ts] w
      fun e w' => e = .returned (.bool true) ∧ Below w.heap.size w w' := by
  have HH := hide head_any
  have b0 : Below w.heap.size w (w.alloc (.cells #[.int .i64 v.key, .int .i64 v.ts, .int .i64 v.value, .bool v.gone] 40)) := (Below.refl _ _).alloc (Nat.le_refl _) _
  have s0 := h.then_ b0
  have n0 : VAt (w.alloc (.cells #[.int .i64 v.key, .int .i64 v.ts, .int .i64 v.value, .bool v.gone] 40)) w.heap.size 0 v := VAt.new rfl
  have BB := hide b0
  have S := hide s0
  have N := hide n0
  clear b0 s0 n0
  by_cases hmid : 60 < l.length ∧ l.length ≤ 4000
  · have g1 : decide ((60 : Int) < (l.length : Int)) = true := by simp; omega
    have g2 : decide ((l.length : Int) ≤ 4000) = true := by simp; omega
    clear hmid
    go_enter Try.func9, Try.ntmps9
    go_wp2_with (go_at_call 30; refine (HH.out _).mono ?_; rintro e w1 ⟨rfl, hb⟩)
    go_ret
    exact ⟨rfl, thenB BB.out hb⟩
  · obtain ⟨⟨pl, pe⟩, hp⟩ : ∃ x, x = putS l v := ⟨_, rfl⟩
    obtain ⟨⟨⟨ak, at_, av, ag⟩, ab, ae⟩, ha⟩ : ∃ x, x = atS l key ts := ⟨_, rfl⟩
    obtain ⟨⟨rl, re⟩, hr⟩ : ∃ x, x = readS l ts := ⟨_, rfl⟩
    obtain ⟨⟨nn, ne⟩, hnw⟩ : ∃ x, x = newestS l key := ⟨_, rfl⟩
    obtain ⟨bv, hv⟩ : ∃ x, x = validB l := ⟨_, rfl⟩
    have V1 := hide (fun W (s : VS W A l) => hv ▸ valid_any A c l W (by omega) s)
    have V2 := hide (fun W (s : VS W A l) => hv ▸ rValid_any A c l W (by omega) s)
    have P1 := hide (fun W (s : VS W A l) => hp ▸ put_any A c l v W hn s)
    have P2 := hide (fun W (s : VS W A l) => (hp.trans (putS_eq l v)) ▸ rPut_any A c l v W (by omega) hlc hcm s)
    have CA1 := hide (fun W (s : VS W A l) => ha ▸ at_any A c l key ts W hn s)
    have CA2 := hide (fun W (s : VS W A l) => (ha.trans (atS_eq l key ts)) ▸ rAt_any A c l key ts W (by omega) s)
    have R1 := hide (fun W (s : VS W A l) => hr ▸ read_any A c l ts W hn s)
    have R2 := hide (fun W (s : VS W A l) => (hr.trans (readS_eq l ts)) ▸ rRead_any A c l ts W (by omega) s)
    have N1 := hide (fun W (s : VS W A l) => hnw ▸ newest_any A c l key W hn s)
    have N2 := hide (fun W (s : VS W A l) => (hnw.trans (newestS_eq l key)) ▸ rNewest_any A c l key W (by omega) s)
    clear hp ha hr hnw hv
    have e1 : (bv == bv) = true := by simp
    have e2 : (pe == pe) = true := by simp
    have e3 : (ae == ae) = true := by simp
    have e4 : (re == re) = true := by simp
    have e5 : (ne == ne) = true := by simp
    have e6 : (nn == nn) = true := by simp
    have e7 : (ab == ab) = true := by simp
    have e8 : eqB ak at_ av ag ak at_ av ag = true := by simp [eqB]
    have g : decide ((60 : Int) < (l.length : Int)) = false ∨ decide ((60 : Int) < (l.length : Int)) = true ∧ decide ((l.length : Int) ≤ 4000) = false := by
      simp only [decide_eq_false_iff_not, decide_eq_true_eq]; omega
    clear hmid
    unfold RetVE at P1 P2 R1 R2
    unfold RetVBE at CA1 CA2
    rcases g with g1 | ⟨g1, g2⟩
    all_goals
      go_enter Try.func9, Try.ntmps9
      go_upto_region 7 with (first
        | (go_at_call 30; refine (HH.out _).mono ?_; rintro e w1 ⟨rfl, hb⟩; have S := hide (S.out.then_ hb); have BB := hide (thenB BB.out hb); have n1 := N.out.then_ hb; clear N; have N := hide n1; unfold VAt at n1; clear hb)
        | (go_at_call 31; refine (P1.out _ S.out).mono ?_; rintro e w2 ⟨A2, c2, rfl, hl2, hm2, hs2, hb⟩; have L1 := hide (Nat.le_trans hl2 hm2); have S := hide (S.out.then_ hb); have BB := hide (thenB BB.out hb); have n1 := N.out.then_ hb; clear N; have N := hide n1; unfold VAt at n1; have T1 := hide hs2; clear hb hs2)
        | (go_at_call 32; refine (P2.out _ S.out).mono ?_; rintro e w3 ⟨A3, c3, rfl, _, _, hs3, hb⟩; have S := hide (S.out.then_ hb); have BB := hide (thenB BB.out hb); have T1 := hide (T1.out.then_ hb); have T2 := hide hs3; clear hb hs3)
        | (go_at_call 27; refine (V1.out _ S.out).mono ?_; rintro e w4 ⟨rfl, hb⟩; have S := hide (S.out.then_ hb); have BB := hide (thenB BB.out hb); have T1 := hide (T1.out.then_ hb); have T2 := hide (T2.out.then_ hb); clear hb)
        | (go_at_call 33; refine (V2.out _ S.out).mono ?_; rintro e w5 ⟨rfl, hb⟩; have S := hide (S.out.then_ hb); have BB := hide (thenB BB.out hb); have T1 := hide (T1.out.then_ hb); have T2 := hide (T2.out.then_ hb); clear hb)
        | (go_at_call 21; refine (same_self _ _ _ _ pl _ L1.out T1.out T2.out).mono ?_; rintro e w6 ⟨rfl, hb⟩; have S := hide (S.out.then_ hb); have BB := hide (thenB BB.out hb); clear hb))
      go_wp2_with (first
        | (go_at_call 29; refine (CA1.out _ S.out).mono ?_; rintro e w7 ⟨rfl, hb⟩; have S := hide (VS.alloc (S.out.then_ hb) (.cells #[.int .i64 ak, .int .i64 at_, .int .i64 av, .bool ag] 40)); have BB := hide (thenB (thenB BB.out hb) ((Below.refl _ _).alloc (Nat.le_refl _) (.cells #[.int .i64 ak, .int .i64 at_, .int .i64 av, .bool ag] 40))); clear hb)
        | (go_at_call 34; refine (CA2.out _ S.out).mono ?_; rintro e w8 ⟨rfl, hb⟩; have q := (Blk.new _ _ _).below hb (by simp); have Q := hide q; have S := hide (VS.alloc (S.out.then_ hb) (.cells #[.int .i64 ak, .int .i64 at_, .int .i64 av, .bool ag] 40)); have BB := hide (thenB (thenB BB.out hb) ((Below.refl _ _).alloc (Nat.le_refl _) (.cells #[.int .i64 ak, .int .i64 at_, .int .i64 av, .bool ag] 40))); clear hb; have l2 := Q.out.lt; have ne1 : ¬ w8.heap.size = w7.heap.size := (by omega); have ne2 : ¬ w7.heap.size = w8.heap.size := (by omega); have q2c := Q.out.cell; have q2f := Q.out.frozen; clear q)
        | (go_at_call 26; clear q2c q2f; refine (R1.out _ S.out).mono ?_; rintro e w9 ⟨A9, c9, rfl, hl9, hm9, hs9, hb⟩; have L2 := hide (Nat.le_trans hl9 hm9); have S := hide (S.out.then_ hb); have BB := hide (thenB BB.out hb); have T3 := hide hs9; clear hb hs9)
        | (go_at_call 35; refine (R2.out _ S.out).mono ?_; rintro e w10 ⟨A10, c10, rfl, _, _, hs10, hb⟩; have S := hide (S.out.then_ hb); have BB := hide (thenB BB.out hb); have T3 := hide (T3.out.then_ hb); have T4 := hide hs10; clear hb hs10)
        | (go_at_call 21; refine (same_self _ _ _ _ rl _ L2.out T3.out T4.out).mono ?_; rintro e w11 ⟨rfl, hb⟩; have S := hide (S.out.then_ hb); have BB := hide (thenB BB.out hb); clear hb)
        | (go_at_call 36; refine (N1.out _ S.out).mono ?_; rintro e w12 ⟨rfl, hb⟩; have S := hide (S.out.then_ hb); have BB := hide (thenB BB.out hb); clear hb)
        | (go_at_call 37; refine (N2.out _ S.out).mono ?_; rintro e w13 ⟨rfl, hb⟩; have S := hide (S.out.then_ hb); have BB := hide (thenB BB.out hb); clear hb))
      go_ret
      exact ⟨rfl, BB.out⟩
end Go.Proofs.Ytejpfcomgamhjaa
