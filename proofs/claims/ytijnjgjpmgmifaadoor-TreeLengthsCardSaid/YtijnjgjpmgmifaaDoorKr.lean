/-
  The walks of slices.Reverse and slices.Clone at uint64, of a row that the caller owns.
-/
import Derived.Test.YtijnjgjpmgmifaaDoorIs
import Derived.Test.YtijnjgjpmgmifaaDoorProg
import Derived.Test.YtijnjgjpmgmifaaDoorRevV0
import Derived.Test.YtijnjgjpmgmifaaDoorAps
import Derived.Deep.RegionLaw
namespace Go.Proofs.YtijnjgjpmgmifaaDoor
open Go.RowKit
/-- element i when k at each end have been swapped -/
def rvAt (l : List Int) (k i : Nat) : Int := if i < k ∨ l.length ≤ i + k then l.getD (l.length - 1 - i) 0 else l.getD i 0
theorem rvAt_step {l : List Int} {k i : Nat} (hk : (k : Int) < (l.length : Int) - 1 - k) (_ : i < l.length) :
    rvAt l (k + 1) i = if i = l.length - 1 - k then rvAt l k k else if i = k then rvAt l k (l.length - 1 - k) else rvAt l k i := by
  unfold rvAt
  by_cases h1 : i = l.length - 1 - k
  · subst h1
    rw [if_pos rfl, if_pos (by omega), if_neg (by omega), show l.length - 1 - (l.length - 1 - k) = k by omega]
  · rw [if_neg h1]
    by_cases h2 : i = k
    · subst h2
      rw [if_pos rfl, if_pos (by omega), if_neg (by omega)]
    · rw [if_neg h2]
      by_cases h3 : i < k ∨ l.length ≤ i + k
      · rw [if_pos h3, if_pos (by omega)]
      · rw [if_neg h3, if_neg (by omega)]
theorem rvAt_done {l : List Int} {k i : Nat} (hk : ¬(k : Int) < (l.length : Int) - 1 - k) (hi : i < l.length) : rvAt l k i = l.getD (l.length - 1 - i) 0 := by
  unfold rvAt
  by_cases h3 : i < k ∨ l.length ≤ i + k
  · rw [if_pos h3]
  · rw [if_neg h3, show l.length - 1 - i = i by omega]
set_option maxHeartbeats 4000000 in
theorem revK_any (base : Nat) (A : Option Addr) (n c : Nat) (l : List Int) (w : World) (hn : l.length ≤ 10000) (h : OwnK .u64 23 w base (.slice A n c) l) :
    Calls Tryd.prog 33 #[.slice A n c] w fun e w' => (∃ v, e = .returned v) ∧ OwnK .u64 23 w' base (.slice A n c) l.reverse ∧ ∃ row, w.grownBy w' row ∧ ∀ r, row = some r → base ≤ r := by
  obtain ⟨hl, hform⟩ := h
  rcases hform with ⟨hv, h0⟩ | ⟨g, cap, cur, hv, hg, hh, hnc, hcm, hcs, htake⟩
  · injection hv with hA hn0 hc0
    subst hA; subst hn0; subst hc0
    obtain rfl : l = [] := List.eq_nil_of_length_eq_zero h0
    go_enter Tryd.func33, Tryd.ntmps33
    go_wp2
    go_loopw [2, 3] (fun i j wr => i = .int .i64 0 ∧ j = .int .i64 (-1) ∧ wr = w) (fun _ _ _ => 0)
    case atStart => exact ⟨rfl, rfl, rfl⟩
    case round =>
      obtain ⟨rfl, rfl, rfl⟩ := hrel
      go_wp2
      go_end0
      exact ⟨⟨_, rfl⟩, World.ownsRow_nil _ _ _ _, none, grown_self _ _, fun r e => by cases e⟩
  · injection hv with hA hn0 hc0
    subst hA; subst hn0; subst hc0
    have hB : Blk w g 23 cur := hh
    have hst : ∀ i (hi : i < l.length), cur[i]? = some (.int .u64 (rvAt l 0 i)) := fun i hi => by
      have h1 : (cur.toList.take (l.length * 1))[i]? = (l.map (Value.int .u64))[i]? := by rw [htake]
      rw [List.getElem?_take_of_lt (by omega), Array.getElem?_toList, List.getElem?_map, List.getElem?_eq_getElem hi] at h1
      rw [h1, show rvAt l 0 i = l[i] by unfold rvAt; rw [if_neg (by omega), List.getD_eq_getElem?_getD, List.getElem?_eq_getElem hi]; rfl]
      rfl
    have HST := hide hst
    clear hst
    go_enter Tryd.func33, Tryd.ntmps33
    go_wp2
    go_loopw [2, 3] (fun i j wr => ∃ (k : Nat) (cs : Array Value), k ≤ l.length ∧ i = .int .i64 k ∧ j = .int .i64 ((l.length : Int) - 1 - k) ∧ Blk wr g 23 cs ∧ cs.size = c * 1 ∧ (∀ i, i < l.length → cs[i]? = some (.int .u64 (rvAt l k i))) ∧ w.grownBy wr (some g)) (fun i _ _ => l.length - (intOf i).toNat)
    case atStart => exact ⟨0, cur, Nat.zero_le _, rfl, by simp, hB, hcs, HST.out, grown_self _ _⟩
    case round =>
      obtain ⟨k, cs, hk, rfl, rfl, hb, hsz, hat, hgr⟩ := hrel
      by_cases hlt : (k : Int) < (l.length : Int) - 1 - k
      · have hkl : k < l.length := by omega
        have hml : l.length - 1 - k < l.length := by omega
        have d1 : decide ((k : Int) < (l.length : Int) - 1 - k) = true := by simpa using hlt
        have hm0 : (0 : Int) ≤ (l.length : Int) - 1 - (k : Int) := by omega
        have hm1 : (l.length : Int) - 1 - (k : Int) < l.length := by omega
        have hm2 : (k : Int) ≤ (l.length : Int) - 1 := by omega
        have ck := hat k hkl
        have cm := hat _ hml
        obtain ⟨x, hx⟩ : ∃ x, x = rvAt l k k := ⟨_, rfl⟩
        obtain ⟨y, hy⟩ : ∃ x, x = rvAt l k (l.length - 1 - k) := ⟨_, rfl⟩
        rw [← hx] at ck
        rw [← hy] at cm
        have a0 := (hb.cell k).trans ck
        have b0 := (hb.cell (l.length - 1 - k)).trans cm
        have f0 := hb.frozen k
        have g0 := hb.frozen (l.length - 1 - k)
        have HB := hide hb
        have HA := hide hat
        have HX := hide hx
        have HY := hide hy
        have HL := hide hlt
        clear hat hx hy ck cm htake hb
        go_wp2_with fail
        go_region_law (fail)
        all_goals
          go_wp2
          go_roundw
          case rel =>
            refine ⟨k + 1, (cs.setIfInBounds k (.int .u64 y)).setIfInBounds (l.length - 1 - k) (.int .u64 x), by omega, by go_num, by simp; omega, ?_, by simpa using hsz, fun i hi => ?_, ?_⟩
            · with_reducible exact ((HB.out.set_ k (.int .u64 y)).set_ (l.length - 1 - k) (.int .u64 x)).drew
            · rw [rvAt_step HL.out hi]
              by_cases h1 : i = l.length - 1 - k
              · rw [if_pos h1, h1, ← HX.out, Array.getElem?_setIfInBounds_self_of_lt (by simp; omega)]
              · rw [if_neg h1, Array.getElem?_setIfInBounds_ne (by omega)]
                by_cases h2 : i = k
                · rw [if_pos h2, h2, ← HY.out, Array.getElem?_setIfInBounds_self_of_lt (by omega)]
                · rw [if_neg h2, Array.getElem?_setIfInBounds_ne (by omega)]; exact HA.out i hi
            · with_reducible exact grown_drew (grown_set (grown_set hgr _ _) _ _)
          case measure => simp [intOf]; omega
      · have d1 : decide ((k : Int) < (l.length : Int) - 1 - k) = false := by simpa using hlt
        have HA := hide hat
        have HB := hide hb
        have HN := hide hlt
        clear hat hb hlt
        go_wp2
        go_end0
        refine ⟨⟨_, rfl⟩, ⟨by simp, .inr ⟨g, c, cs, by rw [List.length_reverse], hg, HB.out, by rw [List.length_reverse]; exact hnc, hcm, hsz, ?_⟩⟩, some g, hgr, fun r e => by cases e; exact hg⟩
        rw [List.length_reverse, Nat.mul_one]
        refine List.ext_getElem? fun i => ?_
        by_cases hi : i < l.length
        · rw [List.getElem?_take_of_lt hi, Array.getElem?_toList, HA.out i hi, rvAt_done (Int.not_lt.2 HN.out) hi, List.getElem?_map, List.getElem?_reverse hi, List.getD_eq_getElem?_getD, List.getElem?_eq_getElem (by omega)]
          rfl
        · rw [List.getElem?_eq_none (by simp; omega), List.getElem?_eq_none (by simp; omega)]
theorem infoU : (Tryd.prog.info? 23).map (fun i => (i.zero, i.size, i.bytes)) = some (some (.int .u64 0), 1, 8) := by kernel_rfl
set_option maxHeartbeats 1000000 in
theorem cloneK_any (A : Option Addr) (c : Nat) (l : List Int) (w : World) (hn : l.length ≤ 100000) (h : KS .u64 w A l) :
    Calls Tryd.prog 40 #[.slice A l.length c] w fun e w' => ∃ v, e = .returned v ∧ OwnK .u64 23 w' w.heap.size v l ∧ Below w.heap.size w w' := by
  obtain ⟨i0, hi, hz0, hz1, hz2⟩ := info_parts infoU
  have hne := fun w' => Lib.run_eql_slice_nil (P := Tryd.prog) w' 22 23 A l.length c 0 0 Tryd.underlying22
  cases hA : A.isNone
  · rw [hA] at hne
    go_enter Tryd.func40, Tryd.ntmps40
    go_wp2_with (at_builtin; refine wpList_append_rd _ rfl _ _ 22 rfl w.heap.size 23 i0 _ 1 8 Tryd.underlying22 hi hz0 hz1 hz2 rfl (by decide) _ 0 [] rfl (World.ownsRow_made w #[] 0 (Nat.le_refl _) (by simp [maxLen]) rfl) A l.length c (l.map (Value.int .u64)) rfl (by simp) (h.alloc _) (kone l) ?_ ?_ ?_ ?_)
    · simp only [maxLen]; omega
    · omega
    · simp
    · intro v1 w1 ho hg _
      go_wp2
      go_ret
      refine ⟨v1, rfl, by simpa [OwnK] using ho, ((Below.refl _ _).alloc (Nat.le_refl _) _).grown hg (by simp) (fun k hk => by simp [Value.ownBlock] at hk; omega)⟩
  · rw [hA] at hne
    obtain rfl : A = none := by simpa using hA
    have hl : l = [] := KS.nil_of h
    subst hl
    simp only [List.length_nil] at hne
    go_enter Tryd.func40, Tryd.ntmps40
    go_wp2
    go_ret
    exact ⟨.slice none 0 0, rfl, OwnK.nil, Below.refl _ _⟩
end Go.Proofs.YtijnjgjpmgmifaaDoor
