/-
  The walk of slices.Reverse at versions, of a row that the caller owns.
-/
import Derived.Test.YtejpfcomgamhjaaClV
import Derived.Deep.RegionLaw
namespace Go.Proofs.Ytejpfcomgamhjaa
open Go.RowKit
/-- version i of a row of cells -/
def CAt (cs : Array Value) (i : Nat) (v : Ver) : Prop := cs[i * 4]? = some (.int .i64 v.key) ∧ cs[i * 4 + 1]? = some (.int .i64 v.ts) ∧ cs[i * 4 + 2]? = some (.int .i64 v.value) ∧ cs[i * 4 + 3]? = some (.bool v.gone)
def put4 (cs : Array Value) (i : Nat) (v : Ver) : Array Value := (((cs.setIfInBounds (i * 4) (.int .i64 v.key)).setIfInBounds (i * 4 + 1) (.int .i64 v.ts)).setIfInBounds (i * 4 + 2) (.int .i64 v.value)).setIfInBounds (i * 4 + 3) (.bool v.gone)
theorem put4_size (cs : Array Value) (i : Nat) (v : Ver) : (put4 cs i v).size = cs.size := by simp [put4]
theorem put4_far {cs : Array Value} {i k : Nat} {v u : Ver} (h : CAt cs i u) (hne : i ≠ k) : CAt (put4 cs k v) i u := by
  obtain ⟨h0, h1, h2, h3⟩ := h
  unfold CAt put4
  refine ⟨?_, ?_, ?_, ?_⟩ <;> (rw [Array.getElem?_setIfInBounds_ne (by omega), Array.getElem?_setIfInBounds_ne (by omega), Array.getElem?_setIfInBounds_ne (by omega), Array.getElem?_setIfInBounds_ne (by omega)]; assumption)
theorem put4_at {cs : Array Value} {k : Nat} {v : Ver} (h : k * 4 + 4 ≤ cs.size) : CAt (put4 cs k v) k v := by
  unfold CAt put4
  refine ⟨?_, ?_, ?_, ?_⟩
  · rw [Array.getElem?_setIfInBounds_ne (by omega), Array.getElem?_setIfInBounds_ne (by omega), Array.getElem?_setIfInBounds_ne (by omega), Array.getElem?_setIfInBounds_self_of_lt (by omega)]
  · rw [Array.getElem?_setIfInBounds_ne (by omega), Array.getElem?_setIfInBounds_ne (by omega), Array.getElem?_setIfInBounds_self_of_lt (by simp; omega)]
  · rw [Array.getElem?_setIfInBounds_ne (by omega), Array.getElem?_setIfInBounds_self_of_lt (by simp; omega)]
  · rw [Array.getElem?_setIfInBounds_self_of_lt (by simp; omega)]
/-- a row whose versions are known one by one -/
theorem take_of_at {cs : Array Value} {l : List Ver} (hs : l.length * 4 ≤ cs.size) (h : ∀ i (hi : i < l.length), CAt cs i l[i]) : cs.toList.take (l.length * 4) = l.flatMap Ver.cells := by
  have hl := flat_len Ver.cells 4 (fun _ => rfl) l
  refine List.ext_getElem? fun q => ?_
  by_cases hq : q < l.length * 4
  · rw [List.getElem?_take_of_lt hq]
    obtain ⟨h0, h1, h2, h3⟩ := h (q / 4) (by omega)
    have hg := fun j hj => flat_get Ver.cells 4 (fun _ => rfl) l (q / 4) j (by omega) hj
    have hr : q % 4 < 4 := Nat.mod_lt _ (by omega)
    have hq2 : q = q / 4 * 4 + q % 4 := by omega
    rw [Array.getElem?_toList]
    rcases (show q % 4 = 0 ∨ q % 4 = 1 ∨ q % 4 = 2 ∨ q % 4 = 3 by omega) with e | e | e | e
    · rw [show q = q / 4 * 4 + 0 by omega, hg 0 (by omega)]; exact h0
    · rw [show q = q / 4 * 4 + 1 by omega, hg 1 (by omega)]; exact h1
    · rw [show q = q / 4 * 4 + 2 by omega, hg 2 (by omega)]; exact h2
    · rw [show q = q / 4 * 4 + 3 by omega, hg 3 (by omega)]; exact h3
  · rw [List.getElem?_eq_none (by simp; omega), List.getElem?_eq_none (by omega)]
theorem at_of_take {cs : Array Value} {l : List Ver} (h : cs.toList.take (l.length * 4) = l.flatMap Ver.cells) {i : Nat} (hi : i < l.length) : CAt cs i l[i] := by
  have hg := fun j (hj : j < 4) => flat_get Ver.cells 4 (fun _ => rfl) l i j hi hj
  rw [← h] at hg
  have key : ∀ j (hj : j < 4), cs[i * 4 + j]? = (Ver.cells l[i])[j]? := fun j hj => by
    rw [← hg j hj, List.getElem?_take_of_lt (by omega), Array.getElem?_toList]
  exact ⟨key 0 (by omega), key 1 (by omega), key 2 (by omega), key 3 (by omega)⟩
/-- version i when k at each end have been swapped -/
def revAt (l : List Ver) (k i : Nat) : Ver := if i < k ∨ l.length ≤ i + k then l.getD (l.length - 1 - i) Ver.zero else l.getD i Ver.zero
theorem revAt_step {l : List Ver} {k i : Nat} (hk : (k : Int) < (l.length : Int) - 1 - k) (_ : i < l.length) :
    revAt l (k + 1) i = if i = l.length - 1 - k then revAt l k k else if i = k then revAt l k (l.length - 1 - k) else revAt l k i := by
  unfold revAt
  by_cases h1 : i = l.length - 1 - k
  · subst h1
    rw [if_pos rfl, if_pos (by omega), if_neg (by omega), show l.length - 1 - (l.length - 1 - k) = k by omega]
  · rw [if_neg h1]
    by_cases h2 : i = k
    · subst h2
      rw [if_pos rfl, if_pos (by omega), if_neg (by omega)]
    · rw [if_neg h2]
      by_cases h3 : i < k ∨ l.length ≤ i + k
      · rw [if_pos h3, if_pos (by omega)]
      · rw [if_neg h3, if_neg (by omega)]
theorem revAt_done {l : List Ver} {k i : Nat} (hk : ¬(k : Int) < (l.length : Int) - 1 - k) (hi : i < l.reverse.length) : revAt l k i = l.reverse[i] := by
  rw [List.length_reverse] at hi
  rw [List.getElem_reverse]
  have hg : l.getD (l.length - 1 - i) Ver.zero = l[l.length - 1 - i]'(by omega) := by rw [List.getD_eq_getElem?_getD, List.getElem?_eq_getElem (by omega)]; rfl
  unfold revAt
  by_cases h3 : i < k ∨ l.length ≤ i + k
  · rw [if_pos h3, hg]
  · rw [if_neg h3, ← hg, show l.length - 1 - i = i by omega]
theorem grown_set {w wr : World} {g : Nat} (h : w.grownBy wr (some g)) (i : Nat) (u : Value) : w.grownBy (wr.setCell ⟨g, i, none⟩ u) (some g) :=
  ⟨h.os, h.tape, h.output, by show w.heap.size ≤ (wr.heap.modify _ _).size; rw [Array.size_modify]; exact h.size, fun k hk hr => (Below.heap_setCell wr ⟨g, i, none⟩ u k (fun e => hr (congrArg some e))).trans (h.block k hk hr)⟩
theorem grown_drew {w wr : World} {row : Option Nat} (h : w.grownBy wr row) : w.grownBy wr.drew row := ⟨h.os, h.tape, h.output, h.size, h.block⟩
theorem grown_self (w : World) (row : Option Nat) : w.grownBy w row := ⟨rfl, rfl, rfl, Nat.le_refl _, fun _ _ _ => rfl⟩
theorem blk_put4 {w : World} {g : Nat} {t : TypeId} {cs : Array Value} (h : Blk w g t cs) (k : Nat) (v1 v2 v3 : Int) (v4 : Bool) :
    Blk ((((w.setCell ⟨g, k * 4, none⟩ (.int .i64 v1)).setCell ⟨g, k * 4 + 1, none⟩ (.int .i64 v2)).setCell ⟨g, k * 4 + 2, none⟩ (.int .i64 v3)).setCell ⟨g, k * 4 + 3, none⟩ (.bool v4)) g t (put4 cs k ⟨v1, v2, v3, v4⟩) :=
  (((h.set_ _ _).set_ _ _).set_ _ _).set_ _ _
theorem grown_put4 {w wr : World} {g : Nat} (h : w.grownBy wr (some g)) (k : Nat) (v1 v2 v3 v4 : Value) :
    w.grownBy ((((wr.setCell ⟨g, k * 4, none⟩ v1).setCell ⟨g, k * 4 + 1, none⟩ v2).setCell ⟨g, k * 4 + 2, none⟩ v3).setCell ⟨g, k * 4 + 3, none⟩ v4) (some g) :=
  grown_set (grown_set (grown_set (grown_set h _ _) _ _) _ _) _ _
set_option maxHeartbeats 4000000 in
theorem revV_any (base : Nat) (A : Option Addr) (n c : Nat) (l : List Ver) (w : World) (hn : l.length ≤ 4000) (h : OwnV w base (.slice A n c) l) (hbase : base ≤ w.heap.size) :
    Calls Try.prog 47 #[.slice A n c] w fun e w' => (∃ v, e = .returned v) ∧ OwnV w' base (.slice A n c) l.reverse ∧ ∃ row, w.grownBy w' row ∧ ∀ r, row = some r → ∃ a, A = some a ∧ a.block = r := by
  obtain ⟨hl, hform⟩ := h
  rcases hform with ⟨hv, h0⟩ | ⟨g, cap, cur, hv, hg, hh, hnc, hcm, hcs, htake⟩
  · injection hv with hA hn0 hc0
    subst hA; subst hn0; subst hc0
    obtain rfl : l = [] := List.eq_nil_of_length_eq_zero h0
    go_enter Try.func47, Try.ntmps47
    go_wp2
    go_loopw [2, 3] (fun i j wr => i = .int .i64 0 ∧ j = .int .i64 (-1) ∧ wr = w) (fun _ _ _ => 0)
    case atStart => exact ⟨rfl, rfl, rfl⟩
    case round =>
      obtain ⟨rfl, rfl, rfl⟩ := hrel
      go_wp2
      go_end0
      exact ⟨⟨_, rfl⟩, World.ownsRow_nil _ _ _ _, none, grown_self _ _, fun r e => by cases e⟩
  · injection hv with hA hn0 hc0
    subst hA; subst hn0; subst hc0
    have hB : Blk w g 40 cur := hh
    go_enter Try.func47, Try.ntmps47
    go_wp2
    go_loopw [2, 3] (fun i j wr => ∃ (k : Nat) (cs : Array Value), k ≤ l.length ∧ i = .int .i64 k ∧ j = .int .i64 ((l.length : Int) - 1 - k) ∧ Blk wr g 40 cs ∧ cs.size = c * 4 ∧ (∀ i, i < l.length → CAt cs i (revAt l k i)) ∧ w.grownBy wr (some g)) (fun i _ _ => l.length - (intOf i).toNat)
    case atStart => exact ⟨0, cur, Nat.zero_le _, rfl, by simp, hB, hcs, fun i hi => by have := at_of_take htake hi; rw [show revAt l 0 i = l[i] by unfold revAt; rw [if_neg (by omega), List.getD_eq_getElem?_getD, List.getElem?_eq_getElem hi]; rfl]; exact this, grown_self _ _⟩
    case round =>
      obtain ⟨k, cs, hk, rfl, rfl, hb, hsz, hat, hgr⟩ := hrel
      by_cases hlt : (k : Int) < (l.length : Int) - 1 - k
      · have hkl : k < l.length := by omega
        have hml : l.length - 1 - k < l.length := by omega
        have d1 : decide ((k : Int) < (l.length : Int) - 1 - k) = true := by simpa using hlt
        have hm0 : (0 : Int) ≤ (l.length : Int) - 1 - (k : Int) := by omega
        have hm1 : (l.length : Int) - 1 - (k : Int) < l.length := by omega
        have hm2 : (k : Int) ≤ (l.length : Int) - 1 := by omega
        have ck := hat k hkl
        have cm := hat _ hml
        obtain ⟨⟨ak, at_, av, ag⟩, hx⟩ : ∃ x, x = revAt l k k := ⟨_, rfl⟩
        obtain ⟨⟨bk, bt, bv, bg⟩, hy⟩ : ∃ x, x = revAt l k (l.length - 1 - k) := ⟨_, rfl⟩
        rw [← hx] at ck
        rw [← hy] at cm
        unfold CAt at ck cm
        have qk := fun i => hb.cell i
        have a0 := (qk (k * 4)).trans ck.1
        have a1 := (qk (k * 4 + 1)).trans ck.2.1
        have a2 := (qk (k * 4 + 2)).trans ck.2.2.1
        have a3 := (qk (k * 4 + 3)).trans ck.2.2.2
        have b0 := (qk ((l.length - 1 - k) * 4)).trans cm.1
        have b1 := (qk ((l.length - 1 - k) * 4 + 1)).trans cm.2.1
        have b2 := (qk ((l.length - 1 - k) * 4 + 2)).trans cm.2.2.1
        have b3 := (qk ((l.length - 1 - k) * 4 + 3)).trans cm.2.2.2
        have f0 := hb.frozen (k * 4)
        have f1 := hb.frozen (k * 4 + 1)
        have f2 := hb.frozen (k * 4 + 2)
        have f3 := hb.frozen (k * 4 + 3)
        have g0 := hb.frozen ((l.length - 1 - k) * 4)
        have g1 := hb.frozen ((l.length - 1 - k) * 4 + 1)
        have g2 := hb.frozen ((l.length - 1 - k) * 4 + 2)
        have g3 := hb.frozen ((l.length - 1 - k) * 4 + 3)
        have HB := hide hb
        have HA := hide hat
        have HX := hide hx
        have HY := hide hy
        clear hat hx hy ck cm qk htake hb
        go_wp2_with fail
        go_region_law (fail)
        all_goals
          go_wp2
          go_roundw
          case rel =>
            refine ⟨k + 1, put4 (put4 cs k ⟨bk, bt, bv, bg⟩) (l.length - 1 - k) ⟨ak, at_, av, ag⟩, by omega, by go_num, by simp; omega, ?_, by rw [put4_size, put4_size]; exact hsz, fun i hi => ?_, ?_⟩
            · with_reducible exact (blk_put4 (blk_put4 HB.out k bk bt bv bg) (l.length - 1 - k) ak at_ av ag).drew
            · rw [revAt_step hlt hi]
              by_cases h1 : i = l.length - 1 - k
              · rw [if_pos h1, h1, ← HX.out]; exact put4_at (by rw [put4_size, hsz]; omega)
              · rw [if_neg h1]
                refine put4_far ?_ h1
                by_cases h2 : i = k
                · rw [if_pos h2, h2, ← HY.out]; exact put4_at (by rw [hsz]; omega)
                · rw [if_neg h2]; exact put4_far (HA.out i hi) h2
            · with_reducible exact grown_drew (grown_put4 (grown_put4 hgr _ _ _ _ _) _ _ _ _ _)
          case measure => simp [intOf]; omega
      · have d1 : decide ((k : Int) < (l.length : Int) - 1 - k) = false := by simpa using hlt
        have HA := hide hat
        have HB := hide hb
        have HN := hide hlt
        clear hat hb hlt
        go_wp2
        go_end0
        refine ⟨⟨_, rfl⟩, ⟨by rw [flat_len Ver.cells 4 (fun _ => rfl)], .inr ⟨g, c, cs, by rw [List.length_reverse], hg, HB.out, by rw [List.length_reverse]; exact hnc, hcm, hsz, ?_⟩⟩, some g, hgr, fun r e => by first | exact Option.some.inj e | exact ⟨⟨g, 0, none⟩, rfl, Option.some.inj e⟩⟩
        exact take_of_at (by rw [List.length_reverse, hsz]; omega) fun i hi => by rw [← revAt_done (Int.not_lt.2 HN.out) hi]; exact HA.out i (by simpa using hi)
end Go.Proofs.Ytejpfcomgamhjaa
