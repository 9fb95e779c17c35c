/-
  The walks of slices.BinarySearchFunc (with the closure of versions.upTo), versions.upTo, versions.last.
-/
import Derived.Test.YtficjpfhakggmaaValid
namespace Go.Proofs.Ytficjpfhakggmaa
open Go.RowKit
theorem upToF_any (k t v k' t' v' : Int) (g g' : Bool) (w : World) :
    Calls Try.prog 105 #[.agg #[.int .i64 k, .int .i64 t, .int .i64 v, .bool g], .agg #[.int .i64 k', .int .i64 t', .int .i64 v', .bool g']] w
      fun e w' => e = .returned (.int .i64 (ordI k t k' t')) ∧ Below w.heap.size w w' := by
  go_enter Try.func105, Try.ntmps105
  go_wp2_with (go_at_call 87; refine (order_any _ _ _ _ _ _ _ _ _).mono ?_; rintro e w' ⟨rfl, hb⟩)
  go_ret
  exact ⟨rfl, ((Below.refl _ _).alloc (Nat.le_refl _) _ |>.alloc (by simp) _).trans (hb.mono (by simp; omega))⟩
set_option maxHeartbeats 1000000 in
theorem bs_any (A : Option Addr) (c : Nat) (l : List Ver) (k t v : Int) (g : Bool) (m : Nat) (w : World) (hn : l.length ≤ 4611686018427387904) (h : VS w A l)
    (hm : m ≤ l.length) (hlo : ∀ j (hj : j < l.length), j < m → ordI l[j].key l[j].ts k t < 0) (hhi : ∀ j (hj : j < l.length), m ≤ j → 0 ≤ ordI l[j].key l[j].ts k t) :
    Calls Try.prog 104 #[.slice A l.length c, .agg #[.int .i64 k, .int .i64 t, .int .i64 v, .bool g], .func (.func 105) #[] #[]] w
      fun e w' => e = .returned (.tuple #[.int .i64 m, .bool ((l[m]?.map fun v => ordI v.key v.ts k t == 0).getD false)]) ∧ Below w.heap.size w w' := by
  go_enter Try.func104, Try.ntmps104
  go_wp2
  generalize hW : World.alloc w _ = W
  have n0 := VAt.new (v := ⟨k, t, v, g⟩) hW
  have hbW : Below w.heap.size w W := hW ▸ (Below.refl _ _).alloc (Nat.le_refl _) _
  have HS := hide (show W.heap.size = w.heap.size + 1 by rw [← hW]; simp)
  clear hW
  go_loopw [9, 10, 11] (fun i j _ wr => ∃ a b : Nat, a ≤ m ∧ m ≤ b ∧ b ≤ l.length ∧ i = .int .i64 a ∧ j = .int .i64 b ∧ Below W.heap.size W wr) (fun i j _ _ => (intOf j - intOf i).toNat)
  case atStart => exact ⟨0, l.length, Nat.zero_le _, hm, Nat.le_refl _, rfl, rfl, Below.refl _ _⟩
  case round =>
    obtain ⟨a, b, ha, hb, hbl, rfl, rfl, hbr⟩ := hrel
    have hr := (h.below hbW (Nat.le_refl _)).below hbr (Nat.le_refl _)
    have n1 := (n0.below hbr (by have := HS.out; omega)).fut (B := wr.heap.size) (by have := hbr.size; have := HS.out; omega)
    unfold VAt at n1
    have HL := hide hlo
    have HH := hide hhi
    clear hlo hhi n0
    by_cases hab : a < b
    · have hq : (a + b) / 2 < l.length := by omega
      obtain ⟨b', o, rfl, hb', hc⟩ := hr.at_ hq
      have c0 := (hc ((a + b) / 2) hq).fut hb'
      unfold VAt at c0
      have q0 : ((a : Int) + b) / 2 < l.length := by omega
      have q1 : (0 : Int) ≤ ((a : Int) + b) / 2 := by omega
      clear hc
      go_wp2_with fail
      by_cases hcm : (a + b) / 2 < m
      · have t0 := HL.out ((a + b) / 2) hq hcm
        have t1 := decide_eq_true t0
        have HM := hide hcm
        clear hcm t0
        refine wp_region_fut wr.heap.size (by kernel_rfl) (by kernel_rfl) ?_
        repeat (go_big_quiet_step ((go_at_call 105; exact Fut.call (Nat.le_refl _) (upToF_any _ _ _ _ _ _ _ _ _))))
        refine wpQuiet_nil ?_
        rintro _ ⟨⟨w1, hb1⟩, rfl⟩
        go_wp2
        go_roundw
        case rel => exact ⟨(a + b) / 2 + 1, b, by have := HM.out; omega, hb, hbl, by go_num, rfl, hbr.trans (hb1.mono (by have := hbr.size; omega))⟩
        case measure => simp [intOf]; omega
      · have t0 := HH.out ((a + b) / 2) hq (by omega)
        have t1 : decide (ordI l[(a + b) / 2].key l[(a + b) / 2].ts k t < 0) = false := decide_eq_false (by omega)
        have HM := hide hcm
        clear hcm t0
        refine wp_region_fut wr.heap.size (by kernel_rfl) (by kernel_rfl) ?_
        repeat (go_big_quiet_step ((go_at_call 105; exact Fut.call (Nat.le_refl _) (upToF_any _ _ _ _ _ _ _ _ _))))
        refine wpQuiet_nil ?_
        rintro _ ⟨⟨w1, hb1⟩, rfl⟩
        go_wp2
        go_roundw
        case rel => exact ⟨a, (a + b) / 2, ha, by have := HM.out; omega, by omega, rfl, by go_num, hbr.trans (hb1.mono (by have := hbr.size; omega))⟩
        case measure => simp [intOf]; omega
    · obtain rfl : a = m := by omega
      go_wp2_with fail
      by_cases ham : a < l.length
      · obtain ⟨b', o, rfl, hb', hc⟩ := hr.at_ ham
        have c0 := (hc a ham).fut hb'
        unfold VAt at c0
        have d0 : decide (a < l.length) = true := decide_eq_true ham
        clear hc
        refine wp_region_fut wr.heap.size (by kernel_rfl) (by kernel_rfl) ?_
        repeat (go_big_quiet_step ((go_at_call 105; exact Fut.call (Nat.le_refl _) (upToF_any _ _ _ _ _ _ _ _ _))))
        refine wpQuiet_nil ?_
        rintro _ ⟨⟨w1, hb1⟩, rfl⟩
        go_wp2
        go_ret2
        refine ⟨?_, hbW.trans ((hbr.mono (by have := HS.out; omega)).trans (hb1.mono (by have := hbr.size; have := HS.out; omega)))⟩
        rw [List.getElem?_eq_getElem ham]
        rfl
      · have d0 : decide (a < l.length) = false := decide_eq_false ham
        refine wp_region_fut wr.heap.size (by kernel_rfl) (by kernel_rfl) ?_
        repeat (go_big_quiet_step ((go_at_call 105; exact Fut.call (Nat.le_refl _) (upToF_any _ _ _ _ _ _ _ _ _))))
        refine wpQuiet_nil ?_
        rintro _ ⟨⟨w1, hb1⟩, rfl⟩
        go_wp2
        go_ret2
        refine ⟨?_, hbW.trans ((hbr.mono (by have := HS.out; omega)).trans (hb1.mono (by have := hbr.size; have := HS.out; omega)))⟩
        rw [List.getElem?_eq_none (by omega)]
        rfl
set_option maxHeartbeats 1000000 in
theorem upTo_any (A : Option Addr) (c : Nat) (l : List Ver) (k t : Int) (N : Nat) (w : World) (hn : l.length ≤ 4611686018427387904) (h : VS w A l) (hN : UpTo l k t N) :
    Calls Try.prog 93 #[.slice A l.length c, .int .i64 k, .int .i64 t] w
      fun e w' => e = .returned (.int .i64 N) ∧ Below w.heap.size w w' := by
  obtain ⟨m, hm, hlo, hhi, hres⟩ : ∃ m, m ≤ l.length ∧ (∀ j (hj : j < l.length), j < m → ordI l[j].key l[j].ts k t < 0) ∧ (∀ j (hj : j < l.length), m ≤ j → 0 ≤ ordI l[j].key l[j].ts k t) ∧
      ((N = m + 1 ∧ ((l[m]?.map fun v => ordI v.key v.ts k t == 0).getD false) = true) ∨ (N = m ∧ ((l[m]?.map fun v => ordI v.key v.ts k t == 0).getD false) = false)) := by
    by_cases hz : ∃ j, ∃ hj : j < l.length, j + 1 = N ∧ ordI l[j].key l[j].ts k t = 0
    · obtain ⟨j, hj, hjN, h0⟩ := hz
      refine ⟨j, by omega, fun i hi hij => hN.lt i hi (by omega), fun i hi hij => ?_, .inl ⟨hjN.symm, ?_⟩⟩
      · rcases Nat.eq_or_lt_of_le hij with rfl | hlt
        · omega
        · have := hN.hi i hi (by omega); omega
      · rw [List.getElem?_eq_getElem hj]; simp [h0]
    · refine ⟨N, hN.le, fun i hi hij => ?_, fun i hi hij => by have := hN.hi i hi hij; omega, .inr ⟨rfl, ?_⟩⟩
      · have h1 := hN.lo i hi hij
        by_cases hl : i + 1 < N
        · exact hN.lt i hi hl
        · have : ordI l[i].key l[i].ts k t ≠ 0 := fun e => hz ⟨i, hi, by omega, e⟩
          omega
      · by_cases hl : N < l.length
        · rw [List.getElem?_eq_getElem hl]
          have := hN.hi N hl (Nat.le_refl _)
          simp; omega
        · rw [List.getElem?_eq_none (by omega)]; rfl
  have hNm : (N : Int) ≤ l.length := by have := hN.le; omega
  have HN := hide hN
  clear hN
  go_enter Try.func93, Try.ntmps93
  rcases hres with ⟨rfl, hf⟩ | ⟨rfl, hf⟩
  all_goals
    go_wp2_with (go_at_call 104; with_reducible refine (bs_any A c l k t 0 false _ _ hn (h.alloc _) hm hlo hhi).mono ?_; rw [hf]; rintro e w1 ⟨rfl, hb⟩)
    go_ret
    exact ⟨rfl, ((Below.refl _ _).alloc (Nat.le_refl _) _).trans (hb.mono (by simp))⟩
end Go.Proofs.Ytficjpfhakggmaa
