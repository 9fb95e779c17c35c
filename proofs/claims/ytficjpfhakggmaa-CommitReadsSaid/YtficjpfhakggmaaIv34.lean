/-
  The walks of interval.Valid, and of Now, of package commit and of its reference implementation.
-/
import Derived.Test.YtficjpfhakggmaaRv34
namespace Go.Proofs.Ytficjpfhakggmaa
open Go.RowKit
/-- an interval is well-formed -/
def ivB (lo hi : Int) : Bool := decide (0 ≤ lo) && decide (lo ≤ hi) && decide (hi ≤ 3000000000000000)
theorem ivB_cases (lo hi : Int) : decide (0 ≤ lo) = false ∧ ivB lo hi = false ∨ decide (0 ≤ lo) = true ∧ (decide (lo ≤ hi) = false ∧ ivB lo hi = false ∨ decide (lo ≤ hi) = true ∧ (decide (hi ≤ 3000000000000000) = false ∧ ivB lo hi = false ∨ decide (hi ≤ 3000000000000000) = true ∧ ivB lo hi = true)) := by
  unfold ivB
  cases decide (0 ≤ lo) <;> cases decide (lo ≤ hi) <;> cases decide (hi ≤ 3000000000000000) <;> simp
theorem iv_any (lo hi : Int) (w : World) : Calls Try.prog 43 #[.agg #[.int .i64 lo, .int .i64 hi]] w fun e w' => e = .returned (.bool (ivB lo hi)) ∧ Below w.heap.size w w' := by
  rcases ivB_cases lo hi with ⟨d1, hr⟩ | ⟨d1, ⟨d2, hr⟩ | ⟨d2, ⟨d3, hr⟩ | ⟨d3, hr⟩⟩⟩
  all_goals
    rw [hr]
    clear hr
    go_enter Try.func43, Try.ntmps43
    go_wp2
    go_ret
    exact ⟨rfl, (Below.refl _ _).alloc (Nat.le_refl _) _⟩
theorem rIv_any (lo hi : Int) (w : World) : Calls Try.prog 29 #[.agg #[.int .i64 lo, .int .i64 hi]] w fun e w' => e = .returned (.bool (ivB lo hi)) ∧ Below w.heap.size w w' := by
  rcases ivB_cases lo hi with ⟨d1, hr⟩ | ⟨d1, ⟨d2, hr⟩ | ⟨d2, ⟨d3, hr⟩ | ⟨d3, hr⟩⟩⟩
  all_goals
    rw [hr]
    clear hr
    go_enter Try.func29, Try.ntmps29
    go_wp2
    go_ret
    exact ⟨rfl, (Below.refl _ _).alloc (Nat.le_refl _) _⟩
/-- a leader, and where its lists lie -/
structure LdV where
  last : Int
  sa : Option Addr
  sc : Nat
  st : List Ver
  oa : Option Addr
  oc : Nat
  op : List TxV
/-- what a leader's lists read as -/
structure LdW (w : World) (L : LdV) : Prop where
  s : VS w L.sa L.st
  o : TS w L.oa L.op
  sl : L.st.length ≤ L.sc
  sm : L.sc ≤ maxLen
  ol : L.op.length ≤ L.oc
  om : L.oc ≤ maxLen
structure LdS (L : LdV) : Prop where
  small : Small (txs L.op)
  st : L.st.length ≤ 1000000
theorem LdW.then_ {w w' : World} {L : LdV} (h : LdW w L) (hb : Below w.heap.size w w') : LdW w' L := ⟨h.s.then_ hb, h.o.then_ hb, h.sl, h.sm, h.ol, h.om⟩
def LdV.ok (L : LdV) : Bool := leadB L.last L.st (txs L.op)
theorem lv_any (L : LdV) (w : World) (hs : LdS L) (h : LdW w L) :
    Calls Try.prog 16 #[.agg #[.int .i64 L.last, .slice L.sa L.st.length L.sc, .slice L.oa L.op.length L.oc]] w fun e w' => e = .returned (.bool L.ok) ∧ Below w.heap.size w w' := leadValid_any _ _ _ _ _ _ _ w hs.small hs.st h.s h.o
theorem rlv_any (L : LdV) (w : World) (hs : LdS L) (h : LdW w L) :
    Calls Try.prog 17 #[.agg #[.int .i64 L.last, .slice L.sa L.st.length L.sc, .slice L.oa L.op.length L.oc]] w fun e w' => e = .returned (.bool L.ok) ∧ Below w.heap.size w w' := rLeadValid_any _ _ _ _ _ _ _ w hs.small hs.st h.s h.o
def nowS (L : LdV) (lo hi : Int) : Int × Int := if !L.ok || !ivB lo hi then (0, 1) else (max hi 1, 0)
/-- the blocks of a leader and of an interval that were handed over -/
theorem ld_keep {w w' : World} {t u : TypeId} {L : LdV} {lo hi : Int} (hb : Below ((w.alloc (.cells #[.int .i64 L.last, .slice L.sa L.st.length L.sc, .slice L.oa L.op.length L.oc] t)).alloc (.cells #[.int .i64 lo, .int .i64 hi] u)).heap.size ((w.alloc (.cells #[.int .i64 L.last, .slice L.sa L.st.length L.sc, .slice L.oa L.op.length L.oc] t)).alloc (.cells #[.int .i64 lo, .int .i64 hi] u)) w') :
    LdAt w' w.heap.size L.last (.slice L.sa L.st.length L.sc) (.slice L.oa L.op.length L.oc) ∧ w'.cell? ⟨w.heap.size + 1, 0, none⟩ = some (.int .i64 lo) ∧ w'.cell? ⟨w.heap.size + 1, 1, none⟩ = some (.int .i64 hi) ∧ Below w.heap.size w w' := by
  have e1 : (w.alloc (.cells #[.int .i64 L.last, .slice L.sa L.st.length L.sc, .slice L.oa L.op.length L.oc] t)).heap.size = w.heap.size + 1 := by simp
  have h1 : LdAt ((w.alloc (.cells #[.int .i64 L.last, .slice L.sa L.st.length L.sc, .slice L.oa L.op.length L.oc] t)).alloc (.cells #[.int .i64 lo, .int .i64 hi] u)) w.heap.size L.last (.slice L.sa L.st.length L.sc) (.slice L.oa L.op.length L.oc) := LdAt.new.below ((Below.refl _ _).alloc (Nat.le_refl _) _) (by rw [e1]; omega)
  refine ⟨h1.below hb (by simp; omega), ?_, ?_, (((Below.refl _ _).alloc (Nat.le_refl _) _).alloc (by simp) _).trans (hb.mono (by simp; omega))⟩
  · have := (hb.cell (p := ⟨w.heap.size + 1, 0, none⟩) (by simp)).trans (cell_at _ _ _ _ 0 e1.symm)
    exact this
  · have := (hb.cell (p := ⟨w.heap.size + 1, 1, none⟩) (by simp)).trans (cell_at _ _ _ _ 1 e1.symm)
    exact this
set_option maxHeartbeats 2000000 in
theorem now_any (L : LdV) (lo hi : Int) (w : World) (hs : LdS L) (h : LdW w L) :
    Calls Try.prog 25 #[.agg #[.int .i64 L.last, .slice L.sa L.st.length L.sc, .slice L.oa L.op.length L.oc], .agg #[.int .i64 lo, .int .i64 hi]] w fun e w' => e = .returned (.tuple #[.int .i64 (nowS L lo hi).1, .int .i64 (nowS L lo hi).2]) ∧ Below w.heap.size w w' := by
  have V := hide fun W (s : LdW W L) => lv_any L W hs s
  have I := hide fun W => iv_any lo hi W
  have HL := hide h
  have K := hide fun W hb => @ld_keep w W 25 31 L lo hi hb
  unfold nowS
  clear h hs
  cases h1 : L.ok
  · rw [h1] at V
    go_enter Try.func25, Try.ntmps25
    go_wp2_with (go_at_call 16; refine (V.out _ (HL.out.then_ (((Below.refl _ _).alloc (Nat.le_refl _) _).alloc (by simp) _))).mono ?_; rintro e w1 ⟨rfl, hb⟩; obtain ⟨k1, k2, k3, k4⟩ := K.out _ hb; clear hb; unfold LdAt at k1)
    go_ret2
    exact ⟨rfl, k4⟩
  · rw [h1] at V
    cases h2 : ivB lo hi
    all_goals
      rw [h2] at I
      clear h1 h2
      go_enter Try.func25, Try.ntmps25
      go_wp2_with (first
        | (go_at_call 16; refine (V.out _ (HL.out.then_ (((Below.refl _ _).alloc (Nat.le_refl _) _).alloc (by simp) _))).mono ?_; rintro e w1 ⟨rfl, hb⟩; obtain ⟨k1, k2, k3, k4⟩ := K.out _ hb; have HB := hide hb; clear hb; unfold LdAt at k1)
        | (go_at_call 43; refine (I.out _).mono ?_; rintro e w2 ⟨rfl, hb⟩; obtain ⟨m1, m2, m3, m4⟩ := K.out _ (HB.out.trans (hb.mono HB.out.size)); clear hb k1 k2 k3; unfold LdAt at m1))
      all_goals
        go_ret2
        exact ⟨by first | rfl | (simp; done) | (congr 3; simp; omega), m4⟩
set_option maxHeartbeats 2000000 in
theorem rNow_any (L : LdV) (lo hi : Int) (w : World) (hs : LdS L) (h : LdW w L) :
    Calls Try.prog 26 #[.agg #[.int .i64 L.last, .slice L.sa L.st.length L.sc, .slice L.oa L.op.length L.oc], .agg #[.int .i64 lo, .int .i64 hi]] w fun e w' => e = .returned (.tuple #[.int .i64 (nowS L lo hi).1, .int .i64 (nowS L lo hi).2]) ∧ Below w.heap.size w w' := by
  have V := hide fun W (s : LdW W L) => rlv_any L W hs s
  have I := hide fun W => rIv_any lo hi W
  have HL := hide h
  have K := hide fun W hb => @ld_keep w W 25 31 L lo hi hb
  unfold nowS
  clear h hs
  cases h1 : L.ok <;> cases h2 : ivB lo hi
  all_goals
    rw [h1] at V
    rw [h2] at I
    clear h1 h2
    go_enter Try.func26, Try.ntmps26
    go_wp2_with (first
      | (go_at_call 17; refine (V.out _ (HL.out.then_ (((Below.refl _ _).alloc (Nat.le_refl _) _).alloc (by simp) _))).mono ?_; rintro e w1 ⟨rfl, hb⟩; obtain ⟨k1, k2, k3, k4⟩ := K.out _ hb; have HB := hide hb; clear hb; unfold LdAt at k1)
      | (go_at_call 29; refine (I.out _).mono ?_; rintro e w2 ⟨rfl, hb⟩; obtain ⟨m1, m2, m3, m4⟩ := K.out _ (HB.out.trans (hb.mono HB.out.size)); clear hb k1 k2 k3; unfold LdAt at m1))
    all_goals
      go_ret2
      exact ⟨by first | rfl | (simp; done) | (congr 3; simp; omega), m4⟩
end Go.Proofs.Ytficjpfhakggmaa
