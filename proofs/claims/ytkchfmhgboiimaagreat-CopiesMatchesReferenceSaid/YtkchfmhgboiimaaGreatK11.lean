/-
  Texts joined: Ver, Ord, Valid, Bs, Last, EqV, Pl33r, At, ClV, Copy, InsV, Put, Read, Read2, Ref33, Ref33b, Ref33c, Ref33d, Ref33e, Pl33s, Pl33t, Pl33u, Pl33v, Sf, Vu, Sa38, Ml, Lp, Sb38, Fp33, Fr33, Ft33, Fu33, Dv, Sc38, Zh.
-/
import Derived.Test.YtkchfmhgboiimaaGreatRows
import Derived.Laws.CopyOwn
import Derived.StillTailTactics
import Derived.WalkMore
import Derived.Deep.LoopGhost
import Derived.Shelf.Small.Bits
import Derived.Shelf.Small.Wraps
import Derived.Shelf.Strconv.Itoa0
import Derived.Shelf.Sort.Plain
import Derived.Ground.Names2Prog
import Derived.Shelf.Slices.Clone
import Derived.Shelf.Slices.CompactI
import Derived.Shelf.Slices.SearchI
import Derived.Shelf.Slices.Cells
import Derived.Shelf.Slices.In.SortNone
import Derived.Test.YtkchfmhgboiimaaGreatProg
import Derived.Sort.OwnSortedInts
import Derived.Test.YtkchfmhgboiimaaGreatK10
set_option linter.unusedSimpArgs false
set_option linter.unusedVariables false
namespace Go.Proofs.YtkchfmhgboiimaaGreat
open Go.RowKit
theorem fieldV0 (a b c : Int) (d : Bool) (w : World) : (Instr.field 50 (.agg #[.int .i64 a, .int .i64 b, .int .i64 c, .bool d]) 0).run Tryz.prog w = .ok (.int .i64 a) w := by kernel_rfl
theorem fieldV1 (a b c : Int) (d : Bool) (w : World) : (Instr.field 50 (.agg #[.int .i64 a, .int .i64 b, .int .i64 c, .bool d]) 1).run Tryz.prog w = .ok (.int .i64 b) w := by kernel_rfl
theorem fieldV2 (a b c : Int) (d : Bool) (w : World) : (Instr.field 50 (.agg #[.int .i64 a, .int .i64 b, .int .i64 c, .bool d]) 2).run Tryz.prog w = .ok (.int .i64 c) w := by kernel_rfl
theorem fieldV3 (a b c : Int) (d : Bool) (w : World) : (Instr.field 50 (.agg #[.int .i64 a, .int .i64 b, .int .i64 c, .bool d]) 3).run Tryz.prog w = .ok (.bool d) w := by kernel_rfl
attribute [go_sem] fieldV0 fieldV1 fieldV2 fieldV3
theorem within_any (a b c : Int) (w : World) :
  Calls Tryz.prog 113 #[.int .i64 a, .int .i64 b, .int .i64 c] w fun e w' => e = .returned (.bool (decide (b ≤ a) && decide (a ≤ c))) ∧ w = w' := by
 go_enter Tryz.func113, Tryz.ntmps113
 go_wp2
 all_goals go_ret
 all_goals exact ⟨by first | (simp_all; done) | (simp_all; omega), rfl⟩
theorem isKey_any (a : Int) (w : World) :
  Calls Tryz.prog 112 #[.int .i64 a] w fun e w' => e = .returned (.bool (decide (1 ≤ a) && decide (a ≤ 1000))) ∧ w = w' := by
 go_enter Tryz.func112, Tryz.ntmps112
 go_wp2_with (go_at_call 113; refine (within_any _ _ _ _).mono ?_; rintro e w' ⟨rfl, rfl⟩)
 go_ret
 exact ⟨rfl, rfl⟩
theorem isStamp_any (a : Int) (w : World) :
  Calls Tryz.prog 89 #[.int .i64 a] w fun e w' => e = .returned (.bool (decide (1 ≤ a) && decide (a ≤ 3000000000000000))) ∧ w = w' := by
 go_enter Tryz.func89, Tryz.ntmps89
 go_wp2_with (go_at_call 113; refine (within_any _ _ _ _).mono ?_; rintro e w' ⟨rfl, rfl⟩)
 go_ret
 exact ⟨rfl, rfl⟩
theorem wf_any (k t v : Int) (g : Bool) (w : World) :
  Calls Tryz.prog 84 #[.agg #[.int .i64 k, .int .i64 t, .int .i64 v, .bool g]] w fun e w' => e = .returned (.bool (wfB ⟨k, t, v, g⟩)) ∧ Below w.heap.size w w' := by
 go_enter Tryz.func84, Tryz.ntmps84
 go_wp2_with (first | (go_at_call 112; refine (isKey_any _ _).mono ?_; rintro e w' ⟨rfl, rfl⟩) | (go_at_call 89; refine (isStamp_any _ _).mono ?_; rintro e w' ⟨rfl, rfl⟩) | (go_at_call 113; refine (within_any _ _ _ _).mono ?_; rintro e w' ⟨rfl, rfl⟩))
 all_goals go_ret
 all_goals exact ⟨by first | (simp_all [wfB]; done) | (simp_all [wfB]; omega), (Below.refl _ _).alloc (Nat.le_refl _) _⟩
theorem isNaN_any (a : Int) (w : World) :
  Calls Tryz.prog 64 #[.int .i64 a] w fun e w' => e = .returned (.bool false) ∧ w = w' := by
 go_enter Tryz.func64, Tryz.ntmps64
 go_wp2
 go_ret
 exact ⟨by simp, rfl⟩
theorem cmp_any (a b : Int) (w : World) :
  Calls Tryz.prog 37 #[.int .i64 a, .int .i64 b] w fun e w' => e = .returned (.int .i64 (cmpI a b)) ∧ w = w' := by
 go_enter Tryz.func37, Tryz.ntmps37
 go_wp2_with (go_at_call 64; refine (isNaN_any _ _).mono ?_; rintro e w' ⟨rfl, rfl⟩)
 all_goals go_ret
 all_goals refine ⟨?_, rfl⟩
 all_goals unfold cmpI
 all_goals (repeat (first | rfl | (rw [if_pos (by omega)]) | (rw [if_neg (by omega)])))
theorem orL_drop (l : List Int) : ∀ k, k ≤ l.length → (∀ i, i < k → l.getD i 0 = 0) → orL l = orL (l.drop k) := by
 induction l with
 | nil => intro k _ _; simp
 | cons x l ih =>
  intro k hk h; cases k with
  | zero => rfl
  | succ k =>
   have h0 : x = 0 := by simpa using h 0 (by omega)
   rw [orL, if_pos h0, List.drop_succ_cons]; exact ih k (by simpa using hk) (fun i hi => by simpa using h (i + 1) (by omega))
theorem or_any (A : Option Addr) (c : Nat) (l : List Int) (w : World) (hm : l.length ≤ 9223372036854775807) (h : Rd w A (l.map (Value.int .i64))) :
    Calls Tryz.prog 124 #[.slice A l.length c] w fun e w' => e = .returned (.int .i64 (orL l)) ∧ w = w' := by
  go_enter Tryz.func124, Tryz.ntmps124
  go_wp2
  go_loop [8] (fun i => ∃ k : Nat, k ≤ l.length ∧ i = .int .i64 k ∧ ∀ j, j < k → l.getD j 0 = 0) (fun i => l.length - (intOf i).toNat)
  case atStart => exact ⟨0, Nat.zero_le _, rfl, fun j hj => by omega⟩
  case round =>
    obtain ⟨k, hk, rfl, hz⟩ := hrel
    by_cases hlt : k < l.length
    · have hx : (l.map (Value.int .i64))[k]? = some (.int .i64 l[k]) := by simp [hlt]
      obtain ⟨b, o, rfl, hb, hc⟩ := h (by intro e; simp at e; subst e; simp at hlt)
      have hc0 := hc k _ hx
      have HZ := hide hz
      clear hz hx hc h
      go_wp2
      · go_ret
        have hne : l[k] ≠ 0 := by have : (l[k] != 0) = true := by assumption
                                  simpa using this
        refine ⟨?_, rfl⟩
        show Ending.returned (.int .i64 l[k]) = _
        rw [orL_drop l k hk HZ.out, List.drop_eq_getElem_cons hlt, orL, if_neg hne]
      · go_round
        case rel =>
          have h0 : l[k] = 0 := by have : (l[k] != 0) = false := by assumption
                                   simpa using this
          refine ⟨k + 1, by omega, by go_num, fun j hj => ?_⟩
          by_cases hjk : j = k
          · subst hjk; simp [h0, hlt]
          · exact HZ.out j (by omega)
        case measure => simp [intOf]; omega
    · go_wp2
      go_ret
      refine ⟨?_, rfl⟩
      show Ending.returned (.int .i64 0) = _
      rw [orL_drop l l.length (Nat.le_refl _) (fun i hi => hz i (by omega)), List.drop_length, orL]
end Go.Proofs.YtkchfmhgboiimaaGreat
namespace Go.Proofs.YtkchfmhgboiimaaGreat
open Go.RowKit
set_option maxHeartbeats 1000000 in
theorem order_any (k t v k' t' v' : Int) (g g' : Bool) (w : World) :
  Calls Tryz.prog 111 #[.agg #[.int .i64 k, .int .i64 t, .int .i64 v, .bool g], .agg #[.int .i64 k', .int .i64 t', .int .i64 v', .bool g']] w
   fun e w' => e = .returned (.int .i64 (ordI k t k' t')) ∧ Below w.heap.size w w' := by
 go_enter Tryz.func111, Tryz.ntmps111
 go_wp2_with fail
 go_region_held3 (fun w' => w'.cell? ⟨w.heap.size, 0, none⟩ = some (.int .i64 k) ∧ w'.cell? ⟨w.heap.size, 1, none⟩ = some (.int .i64 t) ∧ w'.cell? ⟨w.heap.size + 1, 0, none⟩ = some (.int .i64 k') ∧ w'.cell? ⟨w.heap.size + 1, 1, none⟩ = some (.int .i64 t')) (go_keep)
  (first | (go_at_call 37; refine (cmp_any _ _ _).mono ?_; rintro e w' ⟨rfl, rfl⟩) | (go_at_call 124; refine (or_any _ _ [cmpI k k', cmpI t t'] _ (by simp) (Rd.two (by simp) (by rw [cell_drew, cell_at _ _ _ _ _ (by simp)]; rfl) (by rw [cell_drew, cell_at _ _ _ _ _ (by simp)]; rfl))).mono ?_; rintro e w' ⟨rfl, rfl⟩))
 all_goals go_wp2
 all_goals go_ret
 all_goals refine ⟨rfl, ?_⟩
 exact (((((Below.refl _ _).alloc (Nat.le_refl _) _).alloc (by simp) _).alloc (by simp; omega) _)).drew
end Go.Proofs.YtkchfmhgboiimaaGreat
namespace Go.Proofs.YtkchfmhgboiimaaGreat
open Go.RowKit
set_option maxHeartbeats 1000000 in
theorem valid_any (A : Option Addr) (c : Nat) (l : List Ver) (w : World) (hn : l.length ≤ 9223372036854775807) (h : VS w A l) :
  Calls Tryz.prog 83 #[.slice A l.length c] w fun e w' => e = .returned (.bool (validB l)) ∧ Below w.heap.size w w' := by
 go_enter Tryz.func83, Tryz.ntmps83
 go_wp2
 go_loopw [2, 3, 4, 7] (fun u2 u3 u4 i wr => ∃ k : Nat, k ≤ l.length ∧ i = .int .i64 k ∧ u2 = .bool false ∧ (∀ j, j < k → okAt l j = true) ∧ Below w.heap.size w wr) (fun _ _ _ i _ => l.length - (intOf i).toNat)
 case atStart => exact ⟨0, Nat.zero_le _, rfl, rfl, fun j hj => by omega, Below.refl _ _⟩
 case round =>
  obtain ⟨k, hk, rfl, rfl, hall, hb⟩ := hrel; have HA := hide hall; clear hall
  by_cases hlt : k < l.length
  ·have hr := h.below hb (Nat.le_refl _); obtain ⟨b, o, rfl, hbl, hc⟩ := hr.at_ hlt; have c0 := hc k hlt; have HC := hide hc; unfold VAt at c0; clear hc
   go_wp2_with fail
   generalize hW : World.alloc wr _ = W; have hbW : Below w.heap.size w W := hW ▸ hb.alloc hb.size _; have hbW' : Below wr.heap.size wr W := hW ▸ (Below.refl _ _).alloc (Nat.le_refl _) _; have n0 := (VAt.new (v := l[k]) hW).fut (Nat.lt_succ_self wr.heap.size); have HS := hide (show W.heap.size = wr.heap.size + 1 by rw [← hW]; simp); unfold VAt at n0; clear hW c0; have HO := hide (okAt_eq hlt); have hi1 : (k : Int) < 9223372036854775807 := by omega
   cases hg : wfB l[k]
   ·refine wp_region_fut (wr.heap.size + 1) (by kernel_rfl) (by kernel_rfl) ?_
    repeat (go_big_quiet_step ((first | (go_at_call 84; exact Fut.call (Nat.le_of_eq HS.out.symm) (wf_any _ _ _ _ _)))))
    refine wpQuiet_nil ?_; rintro _ ⟨⟨w1, hb1⟩, rfl⟩
    go_wp2
    go_ret
    exact ⟨by rw [validB_no hlt (by rw [HO.out, hg]; rfl)]; rfl, hbW.trans (hb1.mono (by have := hb.size; omega))⟩
   ·by_cases h0 : k = 0
    ·have d0 : decide (0 < k) = false := by simp; omega
     have HO := hide (show okAt l k = true by rw [HO.out, hg, show (k == 0) = true by simp [h0]]; rfl); have H0 := hide h0; clear h0; refine wp_region_fut (wr.heap.size + 1) (by kernel_rfl) (by kernel_rfl) ?_
     repeat (go_big_quiet_step ((first | (go_at_call 84; exact Fut.call (Nat.le_of_eq HS.out.symm) (wf_any _ _ _ _ _)))))
     refine wpQuiet_nil ?_; rintro _ ⟨⟨w1, hb1⟩, rfl⟩
     go_wp2
     go_roundw
     case rel => exact ⟨k + 1, by omega, by go_num, rfl, fun j hj => (by rcases Nat.lt_succ_iff_lt_or_eq.1 hj with hj | rfl; exact HA.out j hj; exact HO.out), hbW.trans (hb1.mono (by have := hb.size; omega))⟩
     case measure => simp [intOf]; omega
    ·have d0 : decide (0 < k) = true := by simp; omega
     have hlt1 : (k : Int) - 1 < (l.length : Int) := by omega
     have hnn : (0 : Int) ≤ (k : Int) - 1 := by omega
     have m0 := ((HC.out (k - 1) (by omega)).below hbW' hbl).fut (Nat.lt_succ_of_lt hbl); unfold VAt at m0; have hok : okAt l k = decide (ordI l[k - 1].key l[k - 1].ts l[k].key l[k].ts < 0) := by rw [HO.out, hg, show (k == 0) = false by simp [h0]]; rfl
     by_cases ho : ordI l[k - 1].key l[k - 1].ts l[k].key l[k].ts < 0
     all_goals
      have HK := hide hok
      first
       | have h1 : decide (0 ≤ ordI l[k - 1].key l[k - 1].ts l[k].key l[k].ts) = true := decide_eq_true (by omega)
       | have h1 : decide (0 ≤ ordI l[k - 1].key l[k - 1].ts l[k].key l[k].ts) = false := decide_eq_false (by omega)
      have HN := hide ho; clear hok ho; refine wp_region_fut (wr.heap.size + 1) (by kernel_rfl) (by kernel_rfl) ?_
      repeat (go_big_quiet_step ((first | (go_at_call 84; exact Fut.call (Nat.le_of_eq HS.out.symm) (wf_any _ _ _ _ _)) | (go_at_call 111; exact Fut.call (Nat.le_of_eq HS.out.symm) (order_any _ _ _ _ _ _ _ _ _)))))
      refine wpQuiet_nil ?_; rintro _ ⟨⟨w1, hb1⟩, rfl⟩
      go_wp2
     ·go_roundw
      case rel => exact ⟨k + 1, by omega, by go_num, rfl, fun j hj => (by rcases Nat.lt_succ_iff_lt_or_eq.1 hj with hj | rfl; exact HA.out j hj; exact HK.out.trans (decide_eq_true HN.out)), hbW.trans (hb1.mono (by have := hb.size; omega))⟩
      case measure => simp [intOf]; omega
     ·go_ret
      exact ⟨by rw [validB_no hlt (HK.out.trans (decide_eq_false (by have := HN.out; omega)))]; rfl, hbW.trans (hb1.mono (by have := hb.size; omega))⟩
  ·go_wp2
   go_ret
   exact ⟨by rw [validB_all (fun j hj => HA.out j (by omega))]; simp; omega, hb⟩
end Go.Proofs.YtkchfmhgboiimaaGreat
namespace Go.Proofs.YtkchfmhgboiimaaGreat
open Go.RowKit
theorem upToF_any (k t v k' t' v' : Int) (g g' : Bool) (w : World) :
  Calls Tryz.prog 117 #[.agg #[.int .i64 k, .int .i64 t, .int .i64 v, .bool g], .agg #[.int .i64 k', .int .i64 t', .int .i64 v', .bool g']] w
   fun e w' => e = .returned (.int .i64 (ordI k t k' t')) ∧ Below w.heap.size w w' := by
 go_enter Tryz.func117, Tryz.ntmps117
 go_wp2_with (go_at_call 111; refine (order_any _ _ _ _ _ _ _ _ _).mono ?_; rintro e w' ⟨rfl, hb⟩)
 go_ret
 exact ⟨rfl, ((Below.refl _ _).alloc (Nat.le_refl _) _ |>.alloc (by simp) _).trans (hb.mono (by simp; omega))⟩
set_option maxHeartbeats 1000000 in
theorem bs_any (A : Option Addr) (c : Nat) (l : List Ver) (k t v : Int) (g : Bool) (m : Nat) (w : World) (hn : l.length ≤ 4611686018427387904) (h : VS w A l)
  (hm : m ≤ l.length) (hlo : ∀ j (hj : j < l.length), j < m → ordI l[j].key l[j].ts k t < 0) (hhi : ∀ j (hj : j < l.length), m ≤ j → 0 ≤ ordI l[j].key l[j].ts k t) :
  Calls Tryz.prog 116 #[.slice A l.length c, .agg #[.int .i64 k, .int .i64 t, .int .i64 v, .bool g], .func (.func 117) #[] #[]] w
   fun e w' => e = .returned (.tuple #[.int .i64 m, .bool ((l[m]?.map fun v => ordI v.key v.ts k t == 0).getD false)]) ∧ Below w.heap.size w w' := by
 go_enter Tryz.func116, Tryz.ntmps116
 go_wp2
 generalize hW : World.alloc w _ = W; have n0 := VAt.new (v := ⟨k, t, v, g⟩) hW; have hbW : Below w.heap.size w W := hW ▸ (Below.refl _ _).alloc (Nat.le_refl _) _; have HS := hide (show W.heap.size = w.heap.size + 1 by rw [← hW]; simp); clear hW
 go_loopw [9, 10, 11] (fun i j _ wr => ∃ a b : Nat, a ≤ m ∧ m ≤ b ∧ b ≤ l.length ∧ i = .int .i64 a ∧ j = .int .i64 b ∧ Below W.heap.size W wr) (fun i j _ _ => (intOf j - intOf i).toNat)
 case atStart => exact ⟨0, l.length, Nat.zero_le _, hm, Nat.le_refl _, rfl, rfl, Below.refl _ _⟩
 case round =>
  obtain ⟨a, b, ha, hb, hbl, rfl, rfl, hbr⟩ := hrel; have hr := (h.below hbW (Nat.le_refl _)).below hbr (Nat.le_refl _); have n1 := (n0.below hbr (by have := HS.out; omega)).fut (B := wr.heap.size) (by have := hbr.size; have := HS.out; omega); unfold VAt at n1; have HL := hide hlo; have HH := hide hhi; clear hlo hhi n0
  by_cases hab : a < b
  ·have hq : (a + b) / 2 < l.length := by omega
   obtain ⟨b', o, rfl, hb', hc⟩ := hr.at_ hq; have c0 := (hc ((a + b) / 2) hq).fut hb'; unfold VAt at c0; have q0 : ((a : Int) + b) / 2 < l.length := by omega
   have q1 : (0 : Int) ≤ ((a : Int) + b) / 2 := by omega
   clear hc
   go_wp2_with fail
   by_cases hcm : (a + b) / 2 < m
   ·have t0 := HL.out ((a + b) / 2) hq hcm; have t1 := decide_eq_true t0; have HM := hide hcm; clear hcm t0; refine wp_region_fut wr.heap.size (by kernel_rfl) (by kernel_rfl) ?_
    repeat (go_big_quiet_step ((go_at_call 117; exact Fut.call (Nat.le_refl _) (upToF_any _ _ _ _ _ _ _ _ _))))
    refine wpQuiet_nil ?_; rintro _ ⟨⟨w1, hb1⟩, rfl⟩
    go_wp2
    go_roundw
    case rel => exact ⟨(a + b) / 2 + 1, b, by have := HM.out; omega, hb, hbl, by go_num, rfl, hbr.trans (hb1.mono (by have := hbr.size; omega))⟩
    case measure => simp [intOf]; omega
   ·have t0 := HH.out ((a + b) / 2) hq (by omega); have t1 : decide (ordI l[(a + b) / 2].key l[(a + b) / 2].ts k t < 0) = false := decide_eq_false (by omega); have HM := hide hcm; clear hcm t0; refine wp_region_fut wr.heap.size (by kernel_rfl) (by kernel_rfl) ?_
    repeat (go_big_quiet_step ((go_at_call 117; exact Fut.call (Nat.le_refl _) (upToF_any _ _ _ _ _ _ _ _ _))))
    refine wpQuiet_nil ?_; rintro _ ⟨⟨w1, hb1⟩, rfl⟩
    go_wp2
    go_roundw
    case rel => exact ⟨a, (a + b) / 2, ha, by have := HM.out; omega, by omega, rfl, by go_num, hbr.trans (hb1.mono (by have := hbr.size; omega))⟩
    case measure => simp [intOf]; omega
  ·obtain rfl : a = m := by omega
   go_wp2_with fail
   by_cases ham : a < l.length
   ·obtain ⟨b', o, rfl, hb', hc⟩ := hr.at_ ham; have c0 := (hc a ham).fut hb'; unfold VAt at c0; have d0 : decide (a < l.length) = true := decide_eq_true ham; clear hc; refine wp_region_fut wr.heap.size (by kernel_rfl) (by kernel_rfl) ?_
    repeat (go_big_quiet_step ((go_at_call 117; exact Fut.call (Nat.le_refl _) (upToF_any _ _ _ _ _ _ _ _ _))))
    refine wpQuiet_nil ?_; rintro _ ⟨⟨w1, hb1⟩, rfl⟩
    go_wp2
    go_ret2
    refine ⟨?_, hbW.trans ((hbr.mono (by have := HS.out; omega)).trans (hb1.mono (by have := hbr.size; have := HS.out; omega)))⟩; rw [List.getElem?_eq_getElem ham]; rfl
   ·have d0 : decide (a < l.length) = false := decide_eq_false ham; refine wp_region_fut wr.heap.size (by kernel_rfl) (by kernel_rfl) ?_
    repeat (go_big_quiet_step ((go_at_call 117; exact Fut.call (Nat.le_refl _) (upToF_any _ _ _ _ _ _ _ _ _))))
    refine wpQuiet_nil ?_; rintro _ ⟨⟨w1, hb1⟩, rfl⟩
    go_wp2
    go_ret2
    refine ⟨?_, hbW.trans ((hbr.mono (by have := HS.out; omega)).trans (hb1.mono (by have := hbr.size; have := HS.out; omega)))⟩; rw [List.getElem?_eq_none (by omega)]; rfl
set_option maxHeartbeats 1000000 in
theorem upTo_any (A : Option Addr) (c : Nat) (l : List Ver) (k t : Int) (N : Nat) (w : World) (hn : l.length ≤ 4611686018427387904) (h : VS w A l) (hN : UpTo l k t N) :
    Calls Tryz.prog 88 #[.slice A l.length c, .int .i64 k, .int .i64 t] w
      fun e w' => e = .returned (.int .i64 N) ∧ Below w.heap.size w w' := by
  obtain ⟨m, hm, hlo, hhi, hres⟩ : ∃ m, m ≤ l.length ∧ (∀ j (hj : j < l.length), j < m → ordI l[j].key l[j].ts k t < 0) ∧ (∀ j (hj : j < l.length), m ≤ j → 0 ≤ ordI l[j].key l[j].ts k t) ∧
      ((N = m + 1 ∧ ((l[m]?.map fun v => ordI v.key v.ts k t == 0).getD false) = true) ∨ (N = m ∧ ((l[m]?.map fun v => ordI v.key v.ts k t == 0).getD false) = false)) := by
    by_cases hz : ∃ j, ∃ hj : j < l.length, j + 1 = N ∧ ordI l[j].key l[j].ts k t = 0
    · obtain ⟨j, hj, hjN, h0⟩ := hz
      refine ⟨j, by omega, fun i hi hij => hN.lt i hi (by omega), fun i hi hij => ?_, .inl ⟨hjN.symm, ?_⟩⟩
      · rcases Nat.eq_or_lt_of_le hij with rfl | hlt
        · omega
        · have := hN.hi i hi (by omega); omega
      · rw [List.getElem?_eq_getElem hj]; simp [h0]
    · refine ⟨N, hN.le, fun i hi hij => ?_, fun i hi hij => by have := hN.hi i hi hij; omega, .inr ⟨rfl, ?_⟩⟩
      · have h1 := hN.lo i hi hij
        by_cases hl : i + 1 < N
        · exact hN.lt i hi hl
        · have : ordI l[i].key l[i].ts k t ≠ 0 := fun e => hz ⟨i, hi, by omega, e⟩
          omega
      · by_cases hl : N < l.length
        · rw [List.getElem?_eq_getElem hl]
          have := hN.hi N hl (Nat.le_refl _)
          simp; omega
        · rw [List.getElem?_eq_none (by omega)]; rfl
  have hNm : (N : Int) ≤ l.length := by have := hN.le; omega
  have HN := hide hN
  clear hN
  go_enter Tryz.func88, Tryz.ntmps88
  rcases hres with ⟨rfl, hf⟩ | ⟨rfl, hf⟩
  all_goals
    go_wp2_with (go_at_call 116; with_reducible refine (bs_any A c l k t 0 false _ _ hn (h.alloc _) hm hlo hhi).mono ?_; rw [hf]; rintro e w1 ⟨rfl, hb⟩)
    go_ret
    exact ⟨rfl, ((Below.refl _ _).alloc (Nat.le_refl _) _).trans (hb.mono (by simp))⟩
end Go.Proofs.YtkchfmhgboiimaaGreat
namespace Go.Proofs.YtkchfmhgboiimaaGreat
open Go.RowKit
set_option maxHeartbeats 1000000 in
theorem last_any (A : Option Addr) (c : Nat) (l : List Ver) (k t : Int) (N : Nat) (w : World) (hn : l.length ≤ 4611686018427387904) (h : VS w A l) (hN : UpTo l k t N) :
  Calls Tryz.prog 85 #[.slice A l.length c, .int .i64 k, .int .i64 t] w
   fun e w' => e = .returned (lastN l k N).val ∧ Below w.heap.size w w' := by
 have hNl := hN.le
 by_cases h0 : N = 0
 ·have hl0 : lastN l k N = Ver.zero := by simp [lastN, h0]
  have HL := hide hl0; have HN := hide hN; subst h0; clear hN hl0
  go_enter Tryz.func85, Tryz.ntmps85
  go_wp2_with (go_at_call 88; with_reducible refine (upTo_any A c l k t 0 _ hn (h.alloc _) HN.out).mono ?_; rintro e w1 ⟨rfl, hb⟩; have q := (Blk.new _ _ _).below hb (by simp); have qc := q.cell; have qf := q.frozen; clear q)
  refine bodyPost_ret (v := Ver.zero.val) (by simp [results, Tryz.results85, go_sem, qc, Ver.zero, Ver.val]) rfl ⟨by rw [HL.out], ?_⟩; exact ((((((Below.refl _ _).alloc (Nat.le_refl _) _).trans (hb.mono (by simp))).setCell (p := ⟨w.heap.size, 0, none⟩) (Nat.le_refl _) _).setCell (p := ⟨w.heap.size, 1, none⟩) (Nat.le_refl _) _).setCell (p := ⟨w.heap.size, 2, none⟩) (Nat.le_refl _) _).setCell (p := ⟨w.heap.size, 3, none⟩) (Nat.le_refl _) _
 ·have hlt : N - 1 < l.length := by omega
  have hg : l.getD (N - 1) Ver.zero = l[N - 1] := by simp [hlt]
  obtain ⟨b, o, rfl, hb0, hc⟩ := h.at_ hlt; have c0 := hc (N - 1) hlt; have i0 : (0 : Int) ≤ (N : Int) - 1 := by omega
  have i1 : (N : Int) - 1 < l.length := by omega
  have i2 : (N : Int) ≤ 4611686018427387904 := by omega
  have g0 : decide (0 < N) = true := decide_eq_true (by omega); have HN := hide hN; have H0 := hide h0; clear hN h0 hc
  by_cases hk : l[N - 1].key = k
  ·have hl0 : lastN l k N = l[N - 1] := by unfold lastN; rw [hg, if_pos ⟨H0.out, hk⟩]
   have HL := hide hl0; have k0 : (l[N - 1].key == k) = true := by simp [hk]
   clear hl0 hg hk
   go_enter Tryz.func85, Tryz.ntmps85
   go_wp2_with (go_at_call 88; with_reducible refine (upTo_any (some ⟨b, o, none⟩) c l k t N _ hn (h.alloc _) HN.out).mono ?_; rintro e w1 ⟨rfl, hb⟩; have q := (Blk.new _ _ _).below hb (by simp); have qc := q.cell; have qf := q.frozen; clear q; have c1 := (c0.below ((Below.refl _ _).alloc (Nat.le_refl _) _) hb0).below hb (by simp; omega); unfold VAt at c1)
   refine bodyPost_ret (v := l[N - 1].val) (by simp [results, Tryz.results85, go_sem, qc, Ver.val]) rfl ⟨by rw [HL.out], ?_⟩; exact ((((((Below.refl _ _).alloc (Nat.le_refl _) _).trans (hb.mono (by simp))).setCell (p := ⟨w.heap.size, 0, none⟩) (Nat.le_refl _) _).setCell (p := ⟨w.heap.size, 1, none⟩) (Nat.le_refl _) _).setCell (p := ⟨w.heap.size, 2, none⟩) (Nat.le_refl _) _).setCell (p := ⟨w.heap.size, 3, none⟩) (Nat.le_refl _) _
  ·have hl0 : lastN l k N = Ver.zero := by unfold lastN; rw [hg, if_neg (fun h => hk h.2)]
   have HL := hide hl0; have k0 : (l[N - 1].key == k) = false := by simp [hk]
   clear hl0 hg hk
   go_enter Tryz.func85, Tryz.ntmps85
   go_wp2_with (go_at_call 88; with_reducible refine (upTo_any (some ⟨b, o, none⟩) c l k t N _ hn (h.alloc _) HN.out).mono ?_; rintro e w1 ⟨rfl, hb⟩; have q := (Blk.new _ _ _).below hb (by simp); have qc := q.cell; have qf := q.frozen; clear q; have c1 := (c0.below ((Below.refl _ _).alloc (Nat.le_refl _) _) hb0).below hb (by simp; omega); unfold VAt at c1)
   refine bodyPost_ret (v := Ver.zero.val) (by simp [results, Tryz.results85, go_sem, qc, Ver.zero, Ver.val]) rfl ⟨by rw [HL.out], ?_⟩; exact ((((((Below.refl _ _).alloc (Nat.le_refl _) _).trans (hb.mono (by simp))).setCell (p := ⟨w.heap.size, 0, none⟩) (Nat.le_refl _) _).setCell (p := ⟨w.heap.size, 1, none⟩) (Nat.le_refl _) _).setCell (p := ⟨w.heap.size, 2, none⟩) (Nat.le_refl _) _).setCell (p := ⟨w.heap.size, 3, none⟩) (Nat.le_refl _) _
end Go.Proofs.YtkchfmhgboiimaaGreat
namespace Go.Proofs.YtkchfmhgboiimaaGreat
open Go.RowKit
def eqB (a1 a2 a3 : Int) (a4 : Bool) (b1 b2 b3 : Int) (b4 : Bool) : Bool := decide ((⟨a1, a2, a3, a4⟩ : Ver) = ⟨b1, b2, b3, b4⟩)
theorem eqlV (a1 a2 a3 b1 b2 b3 : Int) (a4 b4 : Bool) (w : World) :
  (binOp .eql 50 (.agg #[.int .i64 a1, .int .i64 a2, .int .i64 a3, .bool a4]) (.agg #[.int .i64 b1, .int .i64 b2, .int .i64 b3, .bool b4])).run Tryz.prog w = .ok (.bool (eqB a1 a2 a3 a4 b1 b2 b3 b4)) w := by
 have hS : Tryz.prog.underlying 50 = some (.struct (Tryz.prog.fieldsOf 50)) := by kernel_rfl
 have hp : Tryz.prog.stoodInHeld 50 = false := by kernel_rfl
 have u3 := Tryz.underlying3; have u4 := Tryz.underlying4; rw [run_eql_struct, show (10000 : Nat) = 9999 + 1 from rfl, run_equalIn_agg w 9999 50 _ _ hS hp]; simp only [Program.fieldsOf, Tryz.underlying50]
 go_simp
 by_cases h1 : a1 = b1 <;> by_cases h2 : a2 = b2 <;> by_cases h3 : a3 = b3 <;> by_cases h4 : a4 = b4 <;> simp [eqB, h1, h2, h3, h4]
theorem neqV (a1 a2 a3 b1 b2 b3 : Int) (a4 b4 : Bool) (w : World) :
  (binOp .neq 50 (.agg #[.int .i64 a1, .int .i64 a2, .int .i64 a3, .bool a4]) (.agg #[.int .i64 b1, .int .i64 b2, .int .i64 b3, .bool b4])).run Tryz.prog w = .ok (.bool (!eqB a1 a2 a3 a4 b1 b2 b3 b4)) w := by
 have hS : Tryz.prog.underlying 50 = some (.struct (Tryz.prog.fieldsOf 50)) := by kernel_rfl
 have hp : Tryz.prog.stoodInHeld 50 = false := by kernel_rfl
 have u3 := Tryz.underlying3; have u4 := Tryz.underlying4; rw [run_neq_struct, show (10000 : Nat) = 9999 + 1 from rfl, run_equalIn_agg w 9999 50 _ _ hS hp]; simp only [Program.fieldsOf, Tryz.underlying50]
 go_simp
 by_cases h1 : a1 = b1 <;> by_cases h2 : a2 = b2 <;> by_cases h3 : a3 = b3 <;> by_cases h4 : a4 = b4 <;> simp [eqB, h1, h2, h3, h4]
attribute [go_sem high] eqlV neqV
end Go.Proofs.YtkchfmhgboiimaaGreat
namespace Go.Proofs.YtkchfmhgboiimaaGreat
def heads : Option Int → List Ver → List Int
 | _, [] => []
 | p, v :: l => if p = some v.key then heads p l else v.key :: heads (some v.key) l
def showV (x : Ver) : Option Ver := if x = Ver.zero ∨ x.gone = true then none else some x
def readL (l : List Ver) (t : Int) : List Ver := (heads none l).filterMap fun k => showV (lastV l k t)
def keyB (k : Int) : Bool := decide (1 ≤ k) && decide (k ≤ 1000)
def stampB (t : Int) : Bool := decide (1 ≤ t) && decide (t ≤ 3000000000000000)
def readS (l : List Ver) (t : Int) : List Ver × Int := if !validB l || !stampB t then ([], 1) else (readL l t, 0)
theorem heads_skip (k : Int) (l : List Ver) : heads (some k) l = heads (some k) (l.dropWhile fun v => v.key == k) := by
 induction l with
 | nil => rfl
 | cons v l ih =>
  by_cases h : v.key = k
  ·rw [List.dropWhile_cons_of_pos (by simpa using h), heads, if_pos (by rw [h]), ih]
  ·rw [List.dropWhile_cons_of_neg (by simpa using h)]
theorem drop_group {l : List Ver} (h : Sto l) {i : Nat} (hi : i < l.length) (_ : ∀ j (hj : j < l.length), j < i → l[j].key < l[i].key) :
  l.drop (upN l l[i].key 3000000000000000) = (l.drop i).dropWhile (fun v => v.key == l[i].key) ∧ i < upN l l[i].key 3000000000000000 := by
 have hN := upN_spec h.up l[i].key 3000000000000000; have hts : ∀ j (hj : j < l.length), l[j].ts ≤ 3000000000000000 := fun j hj => by
  have := h.wf _ (List.getElem_mem hj); simp only [wfB, Bool.and_eq_true, decide_eq_true_eq] at this; omega
 have hup := List.pairwise_iff_getElem.1 h.up; have hlt : i < upN l l[i].key 3000000000000000 := by
  rcases Nat.lt_or_ge i (upN l l[i].key 3000000000000000) with hl | hl
  ·exact hl
  ·have := hN.hi i hi hl; rw [ordI_gt] at this; have := hts i hi; omega
 refine ⟨?_, hlt⟩; have hle := hN.le; have hin : ∀ j (hj : j < l.length), i ≤ j → j < upN l l[i].key 3000000000000000 → l[j].key = l[i].key := fun j hj hij hjN => by
  have h1 := hN.lo j hj hjN; rw [ordI_le] at h1; rcases Nat.eq_or_lt_of_le hij with rfl | hlt2
  ·rfl
  ·have h2 := hup i j hi hj hlt2; unfold ltV at h2; omega
 have key : ∀ n, n ≤ upN l l[i].key 3000000000000000 - i → (l.drop i).dropWhile (fun v => v.key == l[i].key) = (l.drop (i + n)).dropWhile (fun v => v.key == l[i].key) := by
  intro n
  induction n with
  | zero => intro _; rfl
  | succ n ih =>
   intro hn; have hj : i + n < l.length := by omega
   rw [ih (by omega), List.drop_eq_getElem_cons hj, List.dropWhile_cons_of_pos (by simpa using hin (i + n) hj (by omega) (by omega))]; rfl
 have := key (upN l l[i].key 3000000000000000 - i) (Nat.le_refl _); rw [show i + (upN l l[i].key 3000000000000000 - i) = upN l l[i].key 3000000000000000 from by omega] at this; rw [this]; rcases Nat.lt_or_ge (upN l l[i].key 3000000000000000) l.length with hl | hl
 ·rw [List.drop_eq_getElem_cons hl, List.dropWhile_cons_of_neg]; have h1 := hN.hi _ hl (Nat.le_refl _); rw [ordI_gt] at h1; have := hts _ hl
  simp
  omega
 ·rw [List.drop_eq_nil_of_le hl]; rfl
theorem read_round {l : List Ver} (h : Sto l) {t : Int} {i : Nat} (hi : i < l.length) {p : Option Int} {out : List Ver} (hp : p ≠ some l[i].key)
  (hfst : ∀ j (hj : j < l.length), j < i → l[j].key < l[i].key) (hout : readL l t = out ++ (heads p (l.drop i)).filterMap fun k => showV (lastV l k t)) :
  readL l t = (out ++ (showV (lastV l l[i].key t)).toList) ++ (heads (some l[i].key) (l.drop (upN l l[i].key 3000000000000000))).filterMap fun k => showV (lastV l k t) := by
 have hg := drop_group h hi hfst; rw [hout, List.drop_eq_getElem_cons hi, heads, if_neg hp, List.filterMap_cons]; have hs : heads (some l[i].key) (l.drop (i + 1)) = heads (some l[i].key) (l.drop (upN l l[i].key 3000000000000000)) := by
  rw [hg.1, List.drop_eq_getElem_cons hi, List.dropWhile_cons_of_pos (by simp)]; exact heads_skip _ _
 rw [hs]; cases showV (lastV l l[i].key t) <;> simp
theorem next_first {l : List Ver} (h : Sto l) {i : Nat} (hi : i < l.length) (hn : upN l l[i].key 3000000000000000 < l.length) :
  (∀ j (hj : j < l.length), j < upN l l[i].key 3000000000000000 → l[j].key < l[upN l l[i].key 3000000000000000].key) ∧ some l[i].key ≠ some l[upN l l[i].key 3000000000000000].key := by
 have hN := upN_spec h.up l[i].key 3000000000000000; have hts : ∀ j (hj : j < l.length), l[j].ts ≤ 3000000000000000 := fun j hj => by
  have := h.wf _ (List.getElem_mem hj); simp only [wfB, Bool.and_eq_true, decide_eq_true_eq] at this; omega
 have h1 := hN.hi _ hn (Nat.le_refl _); rw [ordI_gt] at h1; have h2 := hts _ hn; refine ⟨fun j hj hjN => ?_, fun e => ?_⟩
 ·have h3 := hN.lo j hj hjN; rw [ordI_le] at h3; omega
 ·injection e with e; omega
end Go.Proofs.YtkchfmhgboiimaaGreat
namespace Go.Proofs.YtkchfmhgboiimaaGreat
open Go.RowKit
end Go.Proofs.YtkchfmhgboiimaaGreat
namespace Go.Proofs.YtkchfmhgboiimaaGreat
open Go.RowKit
theorem infoV : (Tryz.prog.info? 50).map (fun i => (i.zero, i.size, i.bytes)) = some (some (.agg #[.int .i64 0, .int .i64 0, .int .i64 0, .bool false]), 4, 32) := by kernel_rfl
theorem ver_one (l : List Ver) : ∀ u ∈ l.flatMap Ver.cells, u.oneCell' = true := by
 intro u hu; obtain ⟨v, _, hv⟩ := List.mem_flatMap.1 hu; simp only [Ver.cells, List.mem_cons, List.not_mem_nil, or_false] at hv; rcases hv with rfl | rfl | rfl | rfl <;> rfl
def OwnV (w : World) (base : Nat) (v : Value) (l : List Ver) : Prop := w.ownsRow base 50 4 v l.length (l.flatMap Ver.cells)
theorem OwnV.form {w : World} {base : Nat} {v : Value} {l : List Ver} (h : OwnV w base v l) : ∃ A c, v = .slice A l.length c ∧ l.length ≤ c ∧ c ≤ maxLen ∧ VS w A l := own_form h
theorem OwnV.snoc {w : World} {base n : Nat} {v : Value} {l : List Ver} {x : Ver} {cs : List Value} (h : w.ownsRow base 50 4 v (n + 1) (cs ++ x.cells)) (hn : n = l.length) (hc : cs = l.flatMap Ver.cells) : OwnV w base v (l ++ [x]) := by
 subst hn; subst hc; simpa [OwnV] using h
theorem OwnV.app {w : World} {base n : Nat} {v : Value} {l l' : List Ver} {cs : List Value} (h : w.ownsRow base 50 4 v n cs) (hn : n = (l ++ l').length) (hc : cs = l.flatMap Ver.cells ++ l'.flatMap Ver.cells) : OwnV w base v (l ++ l') := by
 subst hn; subst hc; simpa [OwnV] using h
theorem OwnV.blk {w : World} {base : Nat} {A : Option Addr} {n c : Nat} {l : List Ver} (h : OwnV w base (.slice A n c) l) {a : Addr} (ha : A = some a) : base ≤ a.block ∧ a.block < w.heap.size := by
 subst ha; exact h.lt _ rfl
theorem OwnV.below {w w' : World} {base : Nat} {v : Value} {l : List Ver} (h : OwnV w base v l) (hb : Below w.heap.size w w') : OwnV w' base v l := by
 refine ⟨h.1, ?_⟩; rcases h.2 with h2 | ⟨g, cap, cur, hv, hg, hh, r⟩
 ·exact .inl h2
 ·exact .inr ⟨g, cap, cur, hv, hg, (hb.block g (Array.getElem?_eq_some_iff.1 hh).1).trans hh, r⟩
set_option maxHeartbeats 1000000 in
theorem cloneV_any (A : Option Addr) (c : Nat) (l : List Ver) (w : World) (hn : l.length ≤ 4000) (h : VS w A l) :
  Calls Tryz.prog 87 #[.slice A l.length c] w fun e w' => ∃ v, e = .returned v ∧ OwnV w' w.heap.size v l ∧ Below w.heap.size w w' := by
 obtain ⟨i0, hi, hz0, hz1, hz2⟩ := info_parts infoV; have hne := fun w' => Lib.run_eql_slice_nil (P := Tryz.prog) w' 33 50 A l.length c 0 0 Tryz.underlying33
 cases hA : A.isNone
 ·rw [hA] at hne
  go_enter Tryz.func87, Tryz.ntmps87
  go_wp2_with (at_builtin; refine wpList_append_rd _ rfl _ _ 33 rfl w.heap.size 50 i0 _ 4 32 Tryz.underlying33 hi hz0 hz1 hz2 rfl (by decide) _ 0 [] rfl (World.ownsRow_made w #[] 0 (Nat.le_refl _) (by simp [maxLen]) rfl) A l.length c (l.flatMap Ver.cells) rfl (flat_len _ 4 (fun _ => rfl) l) (h.alloc _) (ver_one l) ?_ ?_ ?_ ?_)
  ·simp only [maxLen]; omega
  ·omega
  ·simp
  ·intro v1 w1 ho hg _
   go_wp2
   go_ret
   refine ⟨v1, rfl, by simpa [OwnV] using ho, ((Below.refl _ _).alloc (Nat.le_refl _) _).grown hg (by simp) (fun k hk => by simp [Value.ownBlock] at hk; omega)⟩
 ·rw [hA] at hne; obtain rfl : A = none := by simpa using hA
  have hl : l = [] := by
   cases l with
   | nil => rfl
   | cons x l => obtain ⟨b, o, h1, _⟩ := VS.at_ h (k := 0) (by simp); cases h1
  subst hl; simp only [List.length_nil] at hne
  go_enter Tryz.func87, Tryz.ntmps87
  go_wp2
  go_ret
  exact ⟨.slice none 0 0, rfl, World.ownsRow_nil _ _ _ _, Below.refl _ _⟩
end Go.Proofs.YtkchfmhgboiimaaGreat
namespace Go.Proofs.YtkchfmhgboiimaaGreat
open Go.RowKit
theorem addr_add (b o j : Nat) : (⟨b, o, none⟩ : Addr).add j = ⟨b, o + j, none⟩ := by unfold Addr.add; split <;> simp_all
theorem splice_two {C P X R : List Value} {p m : Nat} (hp : P.length = p) (hx : X.length = m) (hC : C.take p = P) (_ : p + m + R.length ≤ C.length) :
  (splice (splice C p X) (p + m) R).take (p + m + R.length) = P ++ X ++ R := by
 have e1 : splice C p X = P ++ X ++ C.drop (p + m) := by simp only [splice, hC, hx, List.append_assoc]
 have e2 : (P ++ X ++ C.drop (p + m)).take (p + m) = P ++ X := by
  rw [List.take_append_of_le_length (by simp; omega)]; exact List.take_of_length_le (by simp; omega)
 rw [e1, splice, e2, ← List.append_assoc, List.take_append_of_le_length (by simp; omega)]; exact List.take_of_length_le (by simp; omega)
theorem splice_two' {C P X R : List Value} {p m : Nat} (hp : P.length = p) (hx : X.length = m) (hC : C.take p = P) (_ : p + m + R.length ≤ C.length) :
  (splice (splice C (p + m) R) p X).take (p + m + R.length) = P ++ X ++ R := by
 have e1 : (splice C (p + m) R).take p = P := by
  rw [splice, List.take_append_of_le_length (by simp; omega), List.take_take, Nat.min_eq_left (by omega), hC]
 have e2 : (splice C (p + m) R).drop (p + X.length) = R ++ C.drop (p + m + R.length) := by
  rw [splice, hx, List.drop_append, List.drop_of_length_le (by simp; omega), List.nil_append]; rw [List.length_take, Nat.min_eq_left (by omega), Nat.sub_self, List.drop_zero]
 rw [splice, e1, e2, ← List.append_assoc, ← List.append_assoc, List.take_append_of_le_length (by simp; omega)]; exact List.take_of_length_le (by simp; omega)
section
variable {P : Program}
theorem run_copyN (w : World) (dT sT ty elem : TypeId) (size : Nat) (dp sp : Option Addr) (g o dLen dCap sLen sCap : Nat) (cur : Array Value) (t : TypeId) (cs : List Value)
  (hu : P.underlying dT = some (.slice elem)) (hs : (P.info? elem).map (·.size) = some size)
  (hg : Blk w g t cur) (hn : cs.length = Nat.min sLen dLen * size) (hd : cs ≠ [] → dp = some ⟨g, o, none⟩)
  (hsrc : Rd w sp cs) (hfit : o + cs.length ≤ cur.size) (h1 : ∀ v ∈ cs, v.oneCell' = true) :
  ∃ w', (Builtin.copy_ #[dT, sT] ty #[.slice dp dLen dCap, .slice sp sLen sCap]).run P w = .ok (goInt (Nat.min sLen dLen)) w' ∧
   Blk w' g t (splice cur.toList o cs).toArray ∧ w.grownBy w' (some g) ∧ w'.heap.size = w.heap.size := by
 cases hq : P.info? elem with
 | none => simp [hq] at hs
 | some i =>
  have hi : i.size = size := by simpa [hq] using hs
  by_cases hc : cs = []
  ·subst hc; refine ⟨w, ?_, by simpa [splice] using hg, World.grownBy.refl w _, rfl⟩; have h0 : Nat.min sLen dLen * i.size = 0 := by rw [hi, ← hn]; rfl
   have hl : ∀ a : Addr, (loadCells a (Nat.min sLen dLen * i.size)).run P w = .ok #[] w := fun a => by
    rw [h0]; simp [loadCells, loadCellsFrom]
   cases sp <;> cases dp <;> simp [Builtin.copy_, run_underlying hu, Builtin.lenOf, Builtin.firstCells, sizeOf, typeInfo, hq, storeCells, hl]
  ·obtain rfl := hd hc; obtain ⟨b, o', rfl, _, hcell⟩ := hsrc hc; have hl := run_loadCells_list (P := P) w ⟨b, o', none⟩ cs (fun j v hv => by rw [addr_add]; exact hcell j v hv); have hst := run_storeCells_at P g o t cs 0 cur w hg (by simpa using hfit) h1; refine ⟨_, ?_, setRow_heap w g cur _ t _ hg, ⟨rfl, rfl, rfl, by simp [World.setRow], fun k _ hk => setRow_other w g k _ (fun e => hk (by rw [e]))⟩, by simp [World.setRow]⟩; have hlen : Nat.min sLen dLen * i.size = cs.length := by rw [hn, hi]
   simp [Builtin.copy_, run_underlying hu, Builtin.lenOf, Builtin.firstCells, sizeOf, typeInfo, hq, hlen, hl, hst, splice]
theorem wpList_copyN {w : World} {ops : Array Oper} {rest : List Oper} {o : Oper} {a : Act} {Q : Exit → Act → World → Prop} (hgd : o.guard = none) (d s : Operand) (dT sT : TypeId)
  (ho : o.op = .call { callee := .builtin .copy, args := #[d, s], argTypes := #[dT, sT] }) (elem : TypeId) (size : Nat) (hu : P.underlying dT = some (.slice elem)) (hs : (P.info? elem).map (·.size) = some size)
  (dp sp : Option Addr) (dLen dCap sLen sCap : Nat) (hdv : a.eval d = .slice dp dLen dCap) (hsv : a.eval s = .slice sp sLen sCap)
  (g off : Nat) (cur : Array Value) (t : TypeId) (hg : Blk w g t cur) (cs : List Value) (hn : cs.length = Nat.min sLen dLen * size) (hd : cs ≠ [] → dp = some ⟨g, off, none⟩)
  (hsrc : Rd w sp cs) (hfit : off + cs.length ≤ cur.size) (h1 : ∀ v ∈ cs, v.oneCell' = true)
  (h : ∀ w', Blk w' g t (splice cur.toList off cs).toArray → w.grownBy w' (some g) → w'.heap.size = w.heap.size → wpList P ops Q rest (a.put o.dst (goInt (Nat.min sLen dLen))) w') :
  wpList P ops Q (o :: rest) a w := by
 refine wpList_plain hgd fun K hK => ?_
 obtain ⟨w', hrun, h2, h3, h4⟩ := run_copyN (P := P) w dT sT o.type elem size dp sp g off dLen dCap sLen sCap cur t cs hu hs hg hn hd hsrc hfit h1; unfold Oper.wp
 simp [execOp, ho, resolve, invoke, builtin, hdv, hsv, hrun, Result.andThen]
 exact hK _ _ (h w' h2 h3 h4)
theorem step_copyN {ops : Array Oper} {w : World} {o : Oper} {a : Act} {K : Act → World → Prop} {Q : Exit → Act → World → Prop} {E : Prop} (hgd : o.guard = none) (d s : Operand) (dT sT : TypeId)
  (ho : o.op = .call { callee := .builtin .copy, args := #[d, s], argTypes := #[dT, sT] }) (elem : TypeId) (size : Nat) (hu : P.underlying dT = some (.slice elem)) (hs : (P.info? elem).map (·.size) = some size)
  (dp sp : Option Addr) (dLen dCap sLen sCap : Nat) (hdv : a.eval d = .slice dp dLen dCap) (hsv : a.eval s = .slice sp sLen sCap)
  (g off : Nat) (cur : Array Value) (t : TypeId) (hg : Blk w g t cur) (cs : List Value) (hn : cs.length = Nat.min sLen dLen * size) (hd : cs ≠ [] → dp = some ⟨g, off, none⟩)
  (hsrc : Rd w sp cs) (hfit : off + cs.length ≤ cur.size) (h1 : ∀ v ∈ cs, v.oneCell' = true)
  (h : ∀ w', Blk w' g t (splice cur.toList off cs).toArray → w.grownBy w' (some g) → w'.heap.size = w.heap.size → K (a.put o.dst (goInt (Nat.min sLen dLen))) w') :
  if Region.wanted o (yielded ops a.tmps) = true then Oper.wp P o a w K Q else E := by
 have hw : Region.wanted o (yielded ops a.tmps) = true := by simp [Region.wanted, hgd]
 rw [if_pos hw]; obtain ⟨w', hrun, h2, h3, h4⟩ := run_copyN (P := P) w dT sT o.type elem size dp sp g off dLen dCap sLen sCap cur t cs hu hs hg hn hd hsrc hfit h1; unfold Oper.wp
 simp [execOp, ho, resolve, invoke, builtin, hdv, hsv, hrun, Result.andThen]
 exact h w' h2 h3 h4
theorem size_zeroN (z : Array Value) (n : Nat) : (Builtin.zeroCells z n).size = n * z.size := by simp [Builtin.zeroCells]
theorem run_append_zeros (w : World) (t ity ty e : TypeId) (ik : IntKind) (i : TypeInfo) (z : Value) (size bytes : Nat) (ht : P.underlying t = some (.slice e)) (hit : P.underlying ity = some (.int ik)) (hi : P.info? e = some i) (hz : i.zero = some z)
  (hsize : i.size = size) (hby : i.bytes = bytes) (hzs : z.cells.size = size) (A : Option Addr) (n c m : Nat) (xs : List Value) (hl : xs.length = n * size) (hx : Rd w A xs)
  (hm : 0 < m) (hgrow : c < n + m) (h63 : n + m ≤ 9223372036854775807) (hbytes : (n + m) * bytes ≤ 140737488355328) (hsz : 0 < size) :
  ∃ cells cap w', (Builtin.append_ #[t, ity] ty #[.slice A n c, .int .i64 m]).run P w = .ok (.slice (some ⟨w.heap.size, 0, none⟩) (n + m) cap) w' ∧ n + m ≤ cap ∧ cap ≤ maxLen ∧
   Array.size cells = cap * size ∧ cells.toList.take (n * size) = xs ∧ Blk w' w.heap.size e cells ∧ w.grownBy w' none ∧ w'.heap.size = w.heap.size + 1 := by
 subst hsize; subst hby
 have hn : ¬ (n + m ≤ c) := by omega
 have hmi : IntKind.i64.wrap (m : Int) = m := IntWalk.i64_in _ (by omega); have hm0 : ¬ ((m : Int) < 0) := by omega
 have has : (asInt (.int .i64 (m : Int))).run P w = .ok (m : Int) w := rfl; have hmx : max (m : Int) 0 = m := by omega
 have hmb : ¬ (281474976710656 < (m : Int) * i.bytes) := by
  have h1 : m * i.bytes ≤ (n + m) * i.bytes := Nat.mul_le_mul_right _ (by omega); have h2 : ((m * i.bytes : Nat) : Int) ≤ 140737488355328 := by omega
  rw [Int.natCast_mul] at h2; omega
 have h63' : ¬ (9223372036854775807 < ((n : Int) + (m : Int))) := by omega
 have h48' : ¬ (281474976710656 < Builtin.nextslicecap (n + m) c * i.bytes) := by
  have := growslice_fits (need := n + m) (old := c) hgrow hbytes; omega
 have hge := grownCap_ge w (n + m) c e; have hcm : grownCap w (n + m) c e ≤ maxLen := grownCap_le_maxLen w (n + m) c e (by simp only [maxLen]; omega); have hfo : (Builtin.firstCells i.size n (.slice A n c)).run P w.drew = .ok xs.toArray w.drew := by
  by_cases hxs : xs = []
  ·subst hxs; have h0 : n * i.size = 0 := by rw [← hl]; rfl
   cases A <;> simp [Builtin.firstCells, h0, loadCells, loadCellsFrom]
  ·obtain ⟨b, o, rfl, _, hc⟩ := hx hxs; exact run_firstCells_some (P := P) w.drew i.size n ⟨b, o, none⟩ n c xs hl (fun j v hv => by rw [addr_add]; exact hc j v hv)
 refine ⟨xs.toArray ++ Builtin.zeroCells z.cells m ++ Builtin.zeroCells z.cells (grownCap w (n + m) c e - (n + m)), grownCap w (n + m) c e,
  w.drew.alloc (.cells (xs.toArray ++ Builtin.zeroCells z.cells m ++ Builtin.zeroCells z.cells (grownCap w (n + m) c e - (n + m))) e), ?_, hge, hcm, ?_, ?_, heap_alloc_new w.drew _, ⟨rfl, rfl, rfl, by simp, fun k hk _ => Below.heap_alloc w.drew _ k hk⟩, by simp⟩
 ·simp [Builtin.append_, run_underlying ht, run_underlying hit, sizeOf, typeInfo, zeroValue, hi, hz, hn, h63', h48', Question.forced, hfo, newRow, grownCap, has, hmi, hm0, hmb, hmx]
  intro h0; have := Nat.mul_pos hm hsz; omega
 ·simp only [Array.size_append, List.size_toArray, size_zeroN, hzs, hl, ← Nat.add_mul]
  congr 1
  omega
 ·rw [← hl]; simp
theorem wpList_append_zeros {w : World} {ops : Array Oper} {rest : List Oper} {o : Oper} {a : Act} {Q : Exit → Act → World → Prop} (hgd : o.guard = none) (s x : Operand) (t ity : TypeId)
  (ho : o.op = .call { callee := .builtin .append, args := #[s, x], argTypes := #[t, ity] }) (e : TypeId) (ik : IntKind) (i : TypeInfo) (z : Value) (size bytes : Nat) (ht : P.underlying t = some (.slice e)) (hit : P.underlying ity = some (.int ik)) (hi : P.info? e = some i) (hz : i.zero = some z)
  (hsize : i.size = size) (hby : i.bytes = bytes) (hzs : z.cells.size = size) (A : Option Addr) (n c m : Nat) (k : Int) (hs : a.eval s = .slice A n c) (hk : a.eval x = .int .i64 k) (hkm : k = m) (xs : List Value) (hl : xs.length = n * size) (hx : Rd w A xs)
  (N : Nat) (hN : N = n + m) (hm : 0 < m) (hgrow : c < n + m) (h63 : n + m ≤ 9223372036854775807) (hbytes : (n + m) * bytes ≤ 140737488355328) (hsz : 0 < size)
  (h : ∀ cells cap w', N ≤ cap → cap ≤ maxLen → Array.size cells = cap * size → cells.toList.take (n * size) = xs → Blk w' w.heap.size e cells → w.grownBy w' none → w'.heap.size = w.heap.size + 1 →
   wpList P ops Q rest (a.put o.dst (.slice (some ⟨w.heap.size, 0, none⟩) N cap)) w') :
  wpList P ops Q (o :: rest) a w := by
 subst hkm; subst hN; refine wpList_plain hgd fun K hK => ?_
 obtain ⟨cells, cap, w', hrun, h1, h2, h3, h4, h5, h6, h7⟩ := run_append_zeros (P := P) w t ity o.type e ik i z size bytes ht hit hi hz hsize hby hzs A n c m xs hl hx hm hgrow h63 hbytes hsz; unfold Oper.wp execOp; simp only [ho, resolve, invoke, builtin, Sem.run_bind, Sem.run_pure, Result.andThen_ok, List.map_toArray, List.map_cons, List.map_nil, hs, hk, hrun]; exact hK _ _ (h cells cap w' h1 h2 h3 h4 h5 h6 h7)
end
end Go.Proofs.YtkchfmhgboiimaaGreat
namespace Go.Proofs.YtkchfmhgboiimaaGreat
open Go.RowKit
theorem run_overlaps {P : Program} (w : World) (t u : TypeId) (rs : Array TypeId) (elem : TypeId) (size : Nat) (hu : P.underlying t = some (.slice elem)) (hs : (P.info? elem).map (·.size) = some size)
  (g1 g2 o1 o2 n1 n2 c1 c2 : Nat) (t1 t2 : TypeId) (cs1 cs2 : Array Value) (h1 : Blk w g1 t1 cs1) (h2 : Blk w g2 t2 cs2) (hne : g1 ≠ g2) :
  (Extern.SlicesOverlaps.overlaps #[t, u] rs #[.slice (some ⟨g1, o1, none⟩) n1 c1, .slice (some ⟨g2, o2, none⟩) n2 c2]).run P w = .ok (.bool false) w := by
 have f1 := fun o => h1.frozen o
 have f2 := fun o => h2.frozen o
 have s1 : w.shape? g1 = some (t1, cs1.size) := by unfold Blk at h1; simp [World.shape?, h1]
 have s2 : w.shape? g2 = some (t2, cs2.size) := by unfold Blk at h2; simp [World.shape?, h2]
 cases hq : P.info? elem with
 | none => simp [hq] at hs
 | some i =>
  conv => lhs; arg 2; whnf
  simp [Sem.run_bind', hu, sizeOf, typeInfo, hq, hne, f1, f2, s1, s2, noView, viewAt, mayBeOne, stringish, shape, frozen, Sem.run]
theorem ov_call (args : Array Value) (w : World) : (callFunc 114 args).run Tryz.prog w =
  ((Extern.SlicesOverlaps.overlaps #[33, 33] #[4] args).run Tryz.prog w).andThen fun v w' => .ok (.value v) w' :=
 run_callFunc_extern Tryz.func114 (by kernel_rfl) (by kernel_rfl) (by kernel_rfl) (by kernel_rfl) args w
set_option maxHeartbeats 1000000 in
set_option maxRecDepth 100000 in
theorem insertV_end (A : Option Addr) (c : Nat) (l : List Ver) (x : Ver) (g base : Nat) (w : World) (ho : OwnV w base (.slice A l.length c) l) (hbase : base ≤ w.heap.size)
  (hl : l.length < 4000) (hx : Blk w g 50 x.cells.toArray) :
  Calls Tryz.prog 86 #[.slice A l.length c, .int .i64 l.length, .slice (some ⟨g, 0, none⟩) 1 1] w
   fun e w' => ∃ v, e = .returned v ∧ OwnV w' base v (l ++ [x]) ∧ Below base w w' := by
 obtain ⟨i0, hi, hz0, hz1, hz2⟩ := info_parts infoV; obtain ⟨_, _, hv, hlc, hcm, _⟩ := ho.form
 injection hv with e1 e2 e3
 subst e1 e3; unfold maxLen at hcm
 go_enter Tryz.func86, Tryz.ntmps86
 go_wp2_with (at_builtin; refine wpList_append_rd _ rfl _ _ 33 rfl base 50 i0 _ 4 32 Tryz.underlying33 hi hz0 hz1 hz2 rfl (by decide) _ _ _ rfl ho (some ⟨g, 0, none⟩) 1 1 x.cells rfl rfl (by simpa using Rd.of_blk hx) (by simpa using ver_one [x]) ?_ ?_ hbase ?_)
 ·simp only [maxLen]; omega
 ·omega
 all_goals
  intro v1 w1 h1 hg _
  go_wp2
  go_ret
  refine ⟨v1, rfl, by simpa [OwnV] using h1, (Below.refl _ _).grown hg hbase (fun k hk => (ho.lt k (by cases A <;> (simp [Value.ownBlock] at hk ⊢; try exact hk))).1)⟩
set_option maxHeartbeats 2000000 in
set_option maxRecDepth 100000 in
theorem insertV_grow (A : Option Addr) (l : List Ver) (i : Nat) (x : Ver) (g base : Nat) (w : World) (ho : OwnV w base (.slice A l.length l.length) l) (hbase : base ≤ w.heap.size)
  (hil : i < l.length) (hl : l.length < 4000) (hx : Blk w g 50 x.cells.toArray) :
  Calls Tryz.prog 86 #[.slice A l.length l.length, .int .i64 i, .slice (some ⟨g, 0, none⟩) 1 1] w
   fun e w' => ∃ v, e = .returned v ∧ OwnV w' base v (l.take i ++ x :: l.drop i) ∧ Below base w w' := by
 obtain ⟨i0, hi, hz0, hz1, hz2⟩ := info_parts infoV; have hne : ((i : Int) == (l.length : Int)) = false := by simp; omega
 have hnl : ¬ l.length = i := by omega
 have h0 : (0 : Int) ≤ (l.length : Int) + 1 - i := by omega
 go_enter Tryz.func86, Tryz.ntmps86
 have htk : ((l.take i).flatMap Ver.cells).length = i * 4 := by rw [flat_len _ 4 (fun _ => rfl)]; simp; omega
 obtain ⟨g0, rfl, hg0⟩ : ∃ g0, A = some ⟨g0, 0, none⟩ ∧ base ≤ g0 := by
  rcases ho.2 with ⟨_, h⟩ | ⟨g0, _, _, h, hb, _⟩
  ·omega
  ·injection h with h _ _; exact ⟨g0, h, hb⟩
 go_upto_region 11 with (first
  | (at_builtin; refine wpList_append_zeros rfl _ _ 33 3 rfl 50 .i64 i0 _ 4 32 Tryz.underlying33 Tryz.underlying3 hi hz0 hz1 hz2 rfl (some ⟨g0, 0, none⟩) i l.length (l.length + 1 - i) ((l.length : Int) + 1 - i) rfl rfl (by omega) ((l.take i).flatMap Ver.cells) htk (Rd.take (Rd.of_own ho) (take_flat _ l i)) (l.length + 1) (by omega) (by omega) (by omega) (by omega) (by omega) (by omega) ?_; intro cells cap w1 k1 k2 k3 k4 k5 k6 k7; have hci : ¬ cap = i := (by omega); have hci1 : ¬ cap = i + 1 := (by omega); have HK := hide k3; have HK4 := hide k4; have HK7 := hide k7; clear k3 k4 k7)
  | (with_reducible refine wpList_copyN rfl (.tmp 43) (.tmp 44) 33 33 rfl 50 4 Tryz.underlying33 (by kernel_rfl) _ _ _ _ _ _ rfl rfl w.heap.size (i * 4) cells 50 k5 x.cells ?_ ?_ ?_ ?_ ?_ ?_))
 ·simp only [Ver.cells, List.length_cons, List.length_nil]; rw [show Nat.min 1 (l.length + 1 - i) = 1 from Nat.min_eq_left (by omega)]
 ·exact (Rd.of_blk hx).below (Below.of_grown k6) (Nat.le_refl _)
 ·rw [HK.out]; simp only [Ver.cells, List.length_cons, List.length_nil]; omega
 ·simpa using ver_one [x]
 intro w2 q1 q2 q3; have HQ3 := hide q3; clear q3
 go_upto_region 11 with fail
 have b2 : Below w.heap.size w w2 := (Below.of_grown k6).trans ((Below.refl _ _).grown q2 (by have := HK7.out; omega) (fun k hk => by cases hk; exact Nat.le_refl _)); have hrest : Rd w2 (some ⟨g0, 0 + i * 4, none⟩) ((l.drop i).flatMap Ver.cells) := by
  have h2 : Rd w2 (some ⟨g0, 0, none⟩) (((l.take i).flatMap Ver.cells) ++ (l.drop i).flatMap Ver.cells) := by
   rw [← List.flatMap_append, List.take_append_drop]; exact (Rd.of_own ho).below b2 (Nat.le_refl _)
  have h3 := h2.shift; rw [htk] at h3; exact h3
 have hrl : ((l.drop i).flatMap Ver.cells).length = (l.length - i) * 4 := by rw [flat_len _ 4 (fun _ => rfl)]; simp
 have i0 : (0 : Int) ≤ (i : Int) + 1 := by omega
 have i1 : (i : Int) + 1 ≤ (l.length : Int) + 1 := by omega
 have i2 : (i : Int) ≤ (l.length : Int) := by omega
 have HR := hide hrl; have HT := hide htk; clear hrl htk; have hw1 : IntKind.i64.wrap ((i : Int) + 1) = (i : Int) + 1 := IntWalk.i64_in _ (by omega); have hw2 : ((i : Int) + 1).toNat = i + 1 := by omega
 have hcl := hide (show cells.toList.length = cap * 4 by rw [← HK.out]; exact Array.length_toList); have hx4 := hide (show x.cells.length = 4 from rfl); have hs1 := hide (show (splice cells.toList (i * 4) x.cells).length = cap * 4 by rw [length_splice _ _ _ (by rw [hx4.out, hcl.out]; omega), hcl.out]); have hfit : (i + 1) * 4 + ((l.drop i).flatMap Ver.cells).length ≤ (splice cells.toList (i * 4) x.cells).toArray.size := by
  rw [HR.out, List.size_toArray, hs1.out]; omega
 go_region_held3 (fun _ => True) (trivial) ((refine step_copyN rfl (.tmp 50) (.tmp 53) 33 33 rfl 50 4 Tryz.underlying33 (by kernel_rfl) _ _ _ _ _ _ rfl rfl w.heap.size ((i + 1) * 4) _ 50 q1 ((l.drop i).flatMap Ver.cells) (by rw [HR.out]; congr 1; simp) (fun _ => by simp) (by simpa using hrest.below (Below.refl _ _).drew (Nat.le_refl _)) hfit (ver_one _) ?_; intro w3 r1 r2 r3))
 go_wp2
 go_ret
 have b3 : Below w.heap.size w w3 := b2.drew.trans ((Below.refl _ _).grown r2 b2.size (fun k hk => by cases hk; exact Nat.le_refl _)); refine ⟨_, rfl, ?_, b3.mono hbase⟩; have hlen : (l.take i ++ x :: l.drop i).length = l.length + 1 := by simp; omega
 have hcs : (l.take i ++ x :: l.drop i).flatMap Ver.cells = (l.take i).flatMap Ver.cells ++ x.cells ++ (l.drop i).flatMap Ver.cells := by simp
 unfold OwnV; rw [hlen, hcs]; refine ⟨?_, .inr ⟨w.heap.size, cap, _, rfl, hbase, r1, k1, k2, ?_, ?_⟩⟩
 ·rw [List.length_append, List.length_append, HT.out, HR.out, hx4.out]; omega
 ·rw [List.size_toArray, length_splice _ _ _ (by simpa using hfit)]; exact hs1.out
 ·have := splice_two (C := cells.toList) (X := x.cells) (R := (l.drop i).flatMap Ver.cells) HT.out (m := 4) rfl HK4.out (by rw [hcl.out, HR.out]; omega); rw [HR.out, show i * 4 + 4 + (l.length - i) * 4 = (l.length + 1) * 4 from by omega, show i * 4 + 4 = (i + 1) * 4 from by omega] at this; exact this
set_option maxHeartbeats 2000000 in
set_option maxRecDepth 100000 in
theorem insertV_room (A : Option Addr) (l : List Ver) (c i : Nat) (x : Ver) (g base : Nat) (w : World) (ho : OwnV w base (.slice A l.length c) l) (hbase : base ≤ w.heap.size)
  (hil : i < l.length) (hl : l.length < 4000) (hc : l.length + 1 ≤ c) (hx : Blk w g 50 x.cells.toArray) (hgo : ∀ a, A = some a → a.block ≠ g) :
  Calls Tryz.prog 86 #[.slice A l.length c, .int .i64 i, .slice (some ⟨g, 0, none⟩) 1 1] w
   fun e w' => ∃ v, e = .returned v ∧ OwnV w' base v (l.take i ++ x :: l.drop i) ∧ Below base w w' := by
 have hne : ((i : Int) == (l.length : Int)) = false := by simp; omega
 obtain ⟨g0, cur, rfl, hg0, hblk, hcm, hcs, htake⟩ : ∃ g0 cur, A = some ⟨g0, 0, none⟩ ∧ base ≤ g0 ∧ Blk w g0 50 cur ∧ c ≤ maxLen ∧ cur.size = c * 4 ∧ cur.toList.take (l.length * 4) = l.flatMap Ver.cells := by
  rcases ho.2 with ⟨_, h⟩ | ⟨g0, cap, cur, h, hb, hh, hnc, hcm, hcs, ht⟩
  ·omega
  ·injection h with h1 _ h3; subst h3; exact ⟨g0, cur, h1, hb, hh, hcm, hcs, ht⟩
 have hgg : g0 ≠ g := fun e => hgo _ rfl e
 have ov := fun (n : Nat) (m o : Nat) => (ov_call #[.slice (some ⟨g, 0, none⟩) 1 1, .slice (some ⟨g0, o, none⟩) n m] w).trans (by rw [run_overlaps (P := Tryz.prog) w 33 33 #[4] 50 4 Tryz.underlying33 (by kernel_rfl) g g0 0 o 1 n 1 m _ _ _ _ hx hblk (Ne.symm hgg)])
 unfold maxLen at hcm; have hci : ¬ c = i := by omega
 have hci1 : ¬ c = i + 1 := by omega
 go_enter Tryz.func86, Tryz.ntmps86
 have HT := hide htake; have HC := hide hcs; clear htake hcs
 go_upto_region 15 with fail
 have hrl : ((l.drop i).flatMap Ver.cells).length = (l.length - i) * 4 := by rw [flat_len _ 4 (fun _ => rfl)]; simp
 have htk : ((l.take i).flatMap Ver.cells).length = i * 4 := by rw [flat_len _ 4 (fun _ => rfl)]; simp; omega
 have hrest : Rd w (some ⟨g0, 0 + i * 4, none⟩) ((l.drop i).flatMap Ver.cells) := by
  have h2 : Rd w (some ⟨g0, 0, none⟩) (((l.take i).flatMap Ver.cells) ++ (l.drop i).flatMap Ver.cells) := by
   rw [← List.flatMap_append, List.take_append_drop]; exact Rd.of_own ho
  have h3 := h2.shift; rw [htk] at h3; exact h3
 have j0 : (0 : Int) ≤ (i : Int) + 1 := by omega
 have j1 : (i : Int) + 1 ≤ (l.length : Int) + 1 := by omega
 have j2 : (i : Int) ≤ (l.length : Int) + 1 := by omega
 have HR := hide hrl; have HP := hide htk; have hcl := hide (show cur.toList.length = c * 4 by rw [← HC.out]; exact Array.length_toList); have hx4 := hide (show x.cells.length = 4 from rfl); have htki := hide (show cur.toList.take (i * 4) = (l.take i).flatMap Ver.cells by
  obtain ⟨zs, hz⟩ := take_flat Ver.cells l i; have h1 : (cur.toList.take (l.length * 4)).take (i * 4) = (l.take i).flatMap Ver.cells := by
   rw [HT.out, hz, ← htk]; simp
  rw [List.take_take, Nat.min_eq_left (by omega)] at h1; exact h1)
 have hdri := hide (show (cur.toList.take (l.length * 4)).drop (i * 4) = (l.drop i).flatMap Ver.cells by
  rw [HT.out]; have : l.flatMap Ver.cells = (l.take i).flatMap Ver.cells ++ (l.drop i).flatMap Ver.cells := by rw [← List.flatMap_append, List.take_append_drop]
  rw [this, ← htk]; simp)
 clear hrl htk; have hw1 : IntKind.i64.wrap ((i : Int) + 1) = (i : Int) + 1 := IntWalk.i64_in _ (by omega); have hw2 : ((i : Int) + 1).toNat = i + 1 := by omega
 have hfit : (i + 1) * 4 + ((l.drop i).flatMap Ver.cells).length ≤ cur.size := by rw [HR.out, HC.out]; omega
 have hs1 := hide (show (splice cur.toList ((i + 1) * 4) ((l.drop i).flatMap Ver.cells)).length = c * 4 by rw [length_splice _ _ _ (by rw [HR.out, hcl.out]; omega), hcl.out])
 go_region_held3 (fun _ => True) (trivial) ((refine step_copyN rfl (.tmp 73) (.tmp 76) 33 33 rfl 50 4 Tryz.underlying33 (by kernel_rfl) _ _ _ _ _ _ rfl rfl g0 ((i + 1) * 4) cur 50 hblk.drew ((l.drop i).flatMap Ver.cells) (by rw [HR.out]; congr 1; simp [Nat.min_def]; omega) (fun _ => by simp) (by simpa using hrest.below (Below.refl _ _).drew (Nat.le_refl _)) hfit (ver_one _) ?_; intro w3 r1 r2 r3))
 have hxw : Blk w3 g 50 x.cells.toArray := (r2.block g (by simpa using hx.lt) (fun e => hgg (by injection e with e; exact e.symm))).trans hx; have R3 := hide r3; clear r3
 go_upto_region 17 with (with_reducible refine wpList_copyN rfl (.tmp 80) (.tmp 81) 33 33 rfl 50 4 Tryz.underlying33 (by kernel_rfl) _ _ _ _ _ _ rfl rfl g0 (i * 4) _ 50 r1 x.cells ?_ ?_ ?_ ?_ ?_ ?_)
 ·simp only [Ver.cells, List.length_cons, List.length_nil]; rw [show Nat.min 1 (l.length + 1 - i) = 1 from Nat.min_eq_left (by omega)]
 ·exact Rd.of_blk hxw
 ·rw [hx4.out, List.size_toArray, hs1.out]; omega
 ·simpa using ver_one [x]
 intro w4 q1 q2 q3
 go_wp2
 go_ret
 have b4 : Below base w w4 := (((Below.refl base w).drew).grown r2 (by simpa using hbase) (fun k hk => by cases hk; exact hg0)).grown q2 (by rw [R3.out]; simpa using hbase) (fun k hk => by cases hk; exact hg0); refine ⟨_, rfl, ?_, b4⟩; have hlen : (l.take i ++ x :: l.drop i).length = l.length + 1 := by simp; omega
 have hcs : (l.take i ++ x :: l.drop i).flatMap Ver.cells = (l.take i).flatMap Ver.cells ++ x.cells ++ (l.drop i).flatMap Ver.cells := by simp
 unfold OwnV; rw [hlen, hcs]; refine ⟨?_, .inr ⟨g0, c, _, rfl, hg0, q1, hc, by unfold maxLen; omega, ?_, ?_⟩⟩
 ·rw [List.length_append, List.length_append, HP.out, HR.out, hx4.out]; omega
 ·rw [List.size_toArray, length_splice _ _ _ (by rw [hx4.out, hs1.out]; omega)]; exact hs1.out
 ·have := splice_two' (C := cur.toList) (X := x.cells) (R := (l.drop i).flatMap Ver.cells) HP.out (m := 4) rfl htki.out (by rw [hcl.out, HR.out]; omega); rw [HR.out, show i * 4 + 4 + (l.length - i) * 4 = (l.length + 1) * 4 from by omega, show i * 4 + 4 = (i + 1) * 4 from by omega] at this; exact this
theorem insertV_any (A : Option Addr) (c : Nat) (l : List Ver) (i : Nat) (x : Ver) (g base : Nat) (w : World) (ho : OwnV w base (.slice A l.length c) l) (hbase : base ≤ w.heap.size)
  (hil : i ≤ l.length) (hl : l.length < 4000) (hx : Blk w g 50 x.cells.toArray) (hgo : ∀ a, A = some a → a.block ≠ g) :
  Calls Tryz.prog 86 #[.slice A l.length c, .int .i64 i, .slice (some ⟨g, 0, none⟩) 1 1] w
   fun e w' => ∃ v, e = .returned v ∧ OwnV w' base v (l.take i ++ x :: l.drop i) ∧ Below base w w' := by
 obtain ⟨_, _, hv, hlc, _, _⟩ := ho.form
 injection hv with e1 e2 e3
 subst e3
 by_cases h1 : i = l.length
 ·subst h1
  simpa using insertV_end A c l x g base w ho hbase hl hx
 ·by_cases h2 : c = l.length
  ·subst h2; exact insertV_grow A l i x g base w ho hbase (by omega) hl hx
  ·exact insertV_room A l c i x g base w ho hbase (by omega) hl (by omega) hx hgo
end Go.Proofs.YtkchfmhgboiimaaGreat
namespace Go.Proofs.YtkchfmhgboiimaaGreat
open Go.RowKit
def RetVE (w0 : World) (r : List Ver × Int) (e : Ending) (w' : World) : Prop :=
 ∃ A c, e = .returned (.tuple #[.slice A r.1.length c, .int .i64 r.2]) ∧ r.1.length ≤ c ∧ c ≤ maxLen ∧ VS w' A r.1 ∧ Below w0.heap.size w0 w'
theorem RetVE.none_ {w0 w' : World} {x : Int} (hb : Below w0.heap.size w0 w') : RetVE w0 ([], x) (.returned (.tuple #[.slice none 0 0, .int .i64 x])) w' :=
 ⟨none, 0, rfl, Nat.le_refl _, Nat.zero_le _, Rd.nil _ _, hb⟩
end Go.Proofs.YtkchfmhgboiimaaGreat
namespace Go.Proofs.YtkchfmhgboiimaaGreat
open Go.RowKit
end Go.Proofs.YtkchfmhgboiimaaGreat
namespace Go.Proofs.YtkchfmhgboiimaaGreat
open Go.RowKit
end Go.Proofs.YtkchfmhgboiimaaGreat
namespace Go.Proofs.YtkchfmhgboiimaaGreat
open Go.RowKit
theorem rKey_any (a : Int) (w : World) : Calls Tryz.prog 118 #[.int .i64 a] w fun e w' => e = .returned (.bool (keyB a)) ∧ w = w' := by
 go_enter Tryz.func118, Tryz.ntmps118
 go_wp2
 all_goals go_ret
 all_goals exact ⟨by first | (simp_all [keyB]; done) | (simp_all [keyB]; omega), rfl⟩
theorem rStamp_any (a : Int) (w : World) : Calls Tryz.prog 26 #[.int .i64 a] w fun e w' => e = .returned (.bool (stampB a)) ∧ w = w' := by
 go_enter Tryz.func26, Tryz.ntmps26
 go_wp2
 all_goals go_ret
 all_goals exact ⟨by first | (simp_all [stampB]; done) | (simp_all [stampB]; omega), rfl⟩
theorem wfB_eq (v : Ver) : wfB v = (keyB v.key && stampB v.ts && decide (0 ≤ v.value) && decide (v.value ≤ 1000000) && (!v.gone || v.value == 0)) := by
 unfold wfB keyB stampB; simp only [Bool.and_assoc]
set_option maxHeartbeats 1000000 in
theorem rVersion_any (k t v : Int) (g : Bool) (w : World) :
  Calls Tryz.prog 91 #[.agg #[.int .i64 k, .int .i64 t, .int .i64 v, .bool g]] w fun e w' => e = .returned (.bool (wfB ⟨k, t, v, g⟩)) ∧ Below w.heap.size w w' := by
 rw [wfB_eq]; cases hk : keyB k
 ·go_enter Tryz.func91, Tryz.ntmps91
  go_wp2_with (go_at_call 118; refine (rKey_any _ _).mono ?_; rw [hk]; rintro e w' ⟨rfl, rfl⟩)
  all_goals go_ret
  all_goals exact ⟨by simp, (Below.refl _ _).alloc (Nat.le_refl _) _⟩
 ·cases ht : stampB t
  ·go_enter Tryz.func91, Tryz.ntmps91
   go_wp2_with (first | (go_at_call 118; refine (rKey_any _ _).mono ?_; rw [hk]; rintro e w' ⟨rfl, rfl⟩) | (go_at_call 26; refine (rStamp_any _ _).mono ?_; rw [ht]; rintro e w' ⟨rfl, rfl⟩))
   all_goals go_ret
   all_goals exact ⟨by simp, (Below.refl _ _).alloc (Nat.le_refl _) _⟩
  ·go_enter Tryz.func91, Tryz.ntmps91
   go_wp2_with (first | (go_at_call 118; refine (rKey_any _ _).mono ?_; rw [hk]; rintro e w' ⟨rfl, rfl⟩) | (go_at_call 26; refine (rStamp_any _ _).mono ?_; rw [ht]; rintro e w' ⟨rfl, rfl⟩))
   all_goals go_ret
   all_goals exact ⟨by first | (simp_all; done) | (simp_all; omega), (Below.refl _ _).alloc (Nat.le_refl _) _⟩
def ltB (k t k' t' : Int) : Bool := decide (k < k') || (k == k' && decide (t < t'))
set_option maxHeartbeats 1000000 in
theorem rBefore_any (k t v k' t' v' : Int) (g g' : Bool) (w : World) :
  Calls Tryz.prog 93 #[.agg #[.int .i64 k, .int .i64 t, .int .i64 v, .bool g], .agg #[.int .i64 k', .int .i64 t', .int .i64 v', .bool g']] w
   fun e w' => e = .returned (.bool (ltB k t k' t')) ∧ Below w.heap.size w w' := by
 go_enter Tryz.func93, Tryz.ntmps93
 go_wp2
 all_goals go_ret
 all_goals exact ⟨by first | (simp_all [ltB]; done) | (simp_all [ltB]; omega), ((Below.refl _ _).alloc (Nat.le_refl _) _).alloc (by simp) _⟩
theorem ltB_iff (a b : Ver) : ltB a.key a.ts b.key b.ts = decide (ordV a b < 0) := by
 have := ordI_lt (k := a.key) (t := a.ts) (k' := b.key) (t' := b.ts); rw [Bool.eq_iff_iff, decide_eq_true_eq]
 show _ ↔ ordI _ _ _ _ < 0
 rw [this]
 simp [ltB]
end Go.Proofs.YtkchfmhgboiimaaGreat
namespace Go.Proofs.YtkchfmhgboiimaaGreat
open Go.RowKit
set_option maxHeartbeats 1000000 in
theorem rValid_any (A : Option Addr) (c : Nat) (l : List Ver) (w : World) (hn : l.length ≤ 9223372036854775807) (h : VS w A l) :
  Calls Tryz.prog 90 #[.slice A l.length c] w fun e w' => e = .returned (.bool (validB l)) ∧ Below w.heap.size w w' := by
 by_cases hbig : 4000 < l.length
 ·have hp : validB l = false := by simp [validB]; intro _; omega
  rw [hp]
  go_enter Tryz.func90, Tryz.ntmps90
  go_wp2
  go_ret
  exact ⟨rfl, Below.refl _ _⟩
 go_enter Tryz.func90, Tryz.ntmps90
 go_wp2
 go_loopw [2, 3] (fun u2 i wr => ∃ k : Nat, k ≤ l.length ∧ i = .int .i64 k ∧ u2 = .bool false ∧ (∀ j, j < k → okAt l j = true) ∧ Below w.heap.size w wr) (fun _ i _ => l.length - (intOf i).toNat)
 case atStart => exact ⟨0, Nat.zero_le _, rfl, rfl, fun j hj => by omega, Below.refl _ _⟩
 case round =>
  obtain ⟨k, hk, rfl, rfl, hall, hb⟩ := hrel; have HA := hide hall; clear hall
  by_cases hlt : k < l.length
  ·have hr := h.below hb (Nat.le_refl _); obtain ⟨b, o, rfl, hbl, hc⟩ := hr.at_ hlt; have hsr : w.heap.size ≤ wr.heap.size := hb.size; have n0 := (hc k hlt).fut hbl; have HC := hide hc; unfold VAt at n0; clear hc; have HO := hide (okAt_eq hlt); have hi1 : (k : Int) < l.length := by omega
   have hi2 : (0 : Int) ≤ k := by omega
   go_wp2_with fail
   cases hg : wfB l[k]
   ·refine wp_region_fut wr.heap.size (by kernel_rfl) (by kernel_rfl) ?_
    repeat (go_big_quiet_step ((first | (go_at_call 91; exact Fut.call (Nat.le_refl _) (rVersion_any _ _ _ _ _)))))
    refine wpQuiet_nil ?_; intro w1 hq'; have hb1 := Fut.of hq'; clear hq'
    go_wp2
    go_ret
    exact ⟨by rw [validB_no hlt (by rw [HO.out, hg]; rfl)]; rfl, hb.trans (hb1.mono hsr)⟩
   ·by_cases h0 : k = 0
    ·have d0 : decide (0 < k) = false := by simp; omega
     have HO := hide (show okAt l k = true by rw [HO.out, hg, show (k == 0) = true by simp [h0]]; rfl); have H0 := hide h0; clear h0; refine wp_region_fut wr.heap.size (by kernel_rfl) (by kernel_rfl) ?_
     repeat (go_big_quiet_step ((first | (go_at_call 91; exact Fut.call (Nat.le_refl _) (rVersion_any _ _ _ _ _)))))
     refine wpQuiet_nil ?_; intro w1 hq'; have hb1 := Fut.of hq'; clear hq'
     go_wp2
     go_roundw
     case rel => exact ⟨k + 1, by omega, by go_num, rfl, fun j hj => (by rcases Nat.lt_succ_iff_lt_or_eq.1 hj with hj | rfl; exact HA.out j hj; exact HO.out), hb.trans (hb1.mono hsr)⟩
     case measure => simp [intOf]; omega
    ·have d0 : decide (0 < k) = true := by simp; omega
     have hlt1 : (k : Int) - 1 < (l.length : Int) := by omega
     have hnn : (0 : Int) ≤ (k : Int) - 1 := by omega
     have m0 := (HC.out (k - 1) (by omega)).fut hbl; unfold VAt at m0; have hok : okAt l k = ltB l[k - 1].key l[k - 1].ts l[k].key l[k].ts := by rw [HO.out, hg, show (k == 0) = false by simp [h0], ltB_iff]; rfl
     cases ho : ltB l[k - 1].key l[k - 1].ts l[k].key l[k].ts
     all_goals
      rw [ho] at hok; have HK := hide hok; clear hok; refine wp_region_fut wr.heap.size (by kernel_rfl) (by kernel_rfl) ?_
      repeat (go_big_quiet_step ((first | (go_at_call 91; exact Fut.call (Nat.le_refl _) (rVersion_any _ _ _ _ _)) | (go_at_call 93; exact Fut.call (Nat.le_refl _) (rBefore_any _ _ _ _ _ _ _ _ _)))))
      refine wpQuiet_nil ?_; intro w1 hq'; have hb1 := Fut.of hq'; clear hq'
      go_wp2
     ·go_ret
      exact ⟨by rw [validB_no hlt HK.out]; rfl, hb.trans (hb1.mono hsr)⟩
     ·go_roundw
      case rel => exact ⟨k + 1, by omega, by go_num, rfl, fun j hj => (by rcases Nat.lt_succ_iff_lt_or_eq.1 hj with hj | rfl; exact HA.out j hj; exact HK.out), hb.trans (hb1.mono hsr)⟩
      case measure => simp [intOf]; omega
  ·go_wp2
   go_ret
   exact ⟨by rw [validB_all (fun j hj => HA.out j (by omega))]; simp; omega, hb⟩
def newestR (l : List Ver) (k : Int) : Int := l.foldl (fun a v => if v.key = k then max a v.ts else a) 0
theorem foldl_take {α β : Type} (f : β → α → β) (b : β) (l : List α) (k : Nat) (hk : k < l.length) : (l.take (k + 1)).foldl f b = f ((l.take k).foldl f b) l[k] := by
 rw [List.take_succ_eq_append_getElem hk, List.foldl_append]; rfl
set_option maxHeartbeats 1000000 in
theorem rNewest0_any (A : Option Addr) (c : Nat) (l : List Ver) (key : Int) (w : World) (hn : l.length ≤ 9223372036854775807) (h : VS w A l) :
  Calls Tryz.prog 92 #[.slice A l.length c, .int .i64 key] w fun e w' => e = .returned (.int .i64 (newestR l key)) ∧ w = w' := by
 go_enter Tryz.func92, Tryz.ntmps92
 go_wp2
 go_loop [5, 6] (fun m i => ∃ k : Nat, k ≤ l.length ∧ i = .int .i64 k ∧ m = .int .i64 (newestR (l.take k) key)) (fun _ i => l.length - (intOf i).toNat)
 case atStart => exact ⟨0, Nat.zero_le _, rfl, rfl⟩
 case round =>
  obtain ⟨k, hk, rfl, rfl⟩ := hrel
  by_cases hlt : k < l.length
  ·obtain ⟨b, o, rfl, hbl, hc⟩ := h.at_ hlt; have n0 := hc k hlt; unfold VAt at n0; have HS := hide (show newestR (l.take (k + 1)) key = _ from foldl_take _ 0 l k hlt); clear hc; obtain ⟨m, hm⟩ : ∃ m, m = newestR (l.take k) key := ⟨_, rfl⟩; rw [← hm]; have HM := hide hm; clear hm
   by_cases hq : l[k].key = key
   ·have hq' : (l[k].key == key) = true := by simp [hq]
    have HQ := hide hq; clear hq
    go_wp2
    all_goals
     go_round
     case rel => exact ⟨k + 1, by omega, by go_num, by rw [HS.out, if_pos HQ.out]; show _ = Value.int .i64 (max (newestR (l.take k) key) l[k].ts); first | (rw [← HM.out]; done) | (rw [← HM.out]; congr 1; split <;> omega)⟩
     case measure => simp [intOf]; omega
   ·have hq' : (l[k].key == key) = false := by simp [hq]
    have HQ := hide hq; clear hq
    go_wp2
    go_round
    case rel => exact ⟨k + 1, by omega, by go_num, by rw [HS.out, if_neg HQ.out]; show _ = Value.int .i64 (newestR (l.take k) key); rw [← HM.out]⟩
    case measure => simp [intOf]; omega
  ·go_wp2
   go_ret
   exact ⟨by rw [List.take_of_length_le (by omega)]; rfl, rfl⟩
end Go.Proofs.YtkchfmhgboiimaaGreat
namespace Go.Proofs.YtkchfmhgboiimaaGreat
open Go.RowKit
def atFold (l : List Ver) (k t : Int) : Ver := l.foldl (fun a v => if v.key = k ∧ v.ts ≤ t then v else a) Ver.zero
def atR0 (l : List Ver) (k t : Int) : Ver × Bool := if (atFold l k t).key = 0 ∨ (atFold l k t).gone = true then (Ver.zero, false) else (atFold l k t, true)
def RetVB (w0 : World) (r : Ver × Bool) (e : Ending) (w' : World) : Prop :=
 e = .returned (.tuple #[.agg #[.int .i64 r.1.key, .int .i64 r.1.ts, .int .i64 r.1.value, .bool r.1.gone], .bool r.2]) ∧ Below w0.heap.size w0 w'
set_option maxHeartbeats 1000000 in
theorem rAt0_any (A : Option Addr) (c : Nat) (l : List Ver) (key t : Int) (w : World) (hn : l.length ≤ 9223372036854775807) (h : VS w A l) :
    Calls Tryz.prog 94 #[.slice A l.length c, .int .i64 key, .int .i64 t] w (RetVB w (atR0 l key t)) := by
  go_enter Tryz.func94, Tryz.ntmps94
  go_wp2
  go_loopw [9] (fun i wr => ∃ (k : Nat) (v : Ver), k ≤ l.length ∧ i = .int .i64 k ∧ v = atFold (l.take k) key t ∧ Blk wr w.heap.size 50 #[.int .i64 0, .int .i64 0, .int .i64 0, .bool false] ∧
      Blk wr (w.heap.size + 1) 50 #[.int .i64 v.key, .int .i64 v.ts, .int .i64 v.value, .bool v.gone] ∧ Below w.heap.size w wr) (fun i _ => l.length - (intOf i).toNat)
  case atStart =>
    refine ⟨0, Ver.zero, Nat.zero_le _, rfl, rfl, (Blk.new _ _ _).alloc _, ?_, ?_⟩
    · have := Blk.new (w.alloc (.cells #[.int .i64 0, .int .i64 0, .int .i64 0, .bool false] 50)) 50 #[.int .i64 0, .int .i64 0, .int .i64 0, .bool false]
      rw [World.size_alloc] at this; exact this
    · exact ((Below.refl _ _).alloc (Nat.le_refl _) _).alloc (by simp) _
  case round =>
    obtain ⟨k, ⟨vk, vt, vv, vg⟩, hk, rfl, hv, q6, q8, hb⟩ := hrel
    have HV := hide hv
    clear hv
    have l6 := q6.lt
    have l8 := q8.lt
    have q8c := q8.cell
    have q8f := q8.frozen
    have q6c := q6.cell
    have q6f := q6.frozen
    by_cases hlt : k < l.length
    · obtain ⟨b, o, rfl, hbl, hc⟩ := (h.below hb (Nat.le_refl _)).at_ hlt
      have n0 := hc k hlt
      unfold VAt at n0
      have HS := hide (show atFold (l.take (k + 1)) key t = _ from foldl_take _ Ver.zero l k hlt)
      clear hc
      by_cases hq : l[k].key = key ∧ l[k].ts ≤ t
      · have hq' : (l[k].key == key) = true := by simp [hq.1]
        have hq2 : decide (l[k].ts ≤ t) = true := by simp [hq.2]
        have HQ := hide hq
        clear hq
        go_wp2
        go_roundw
        case rel =>
          refine ⟨k + 1, l[k], by omega, by go_num, by rw [HS.out, if_pos HQ.out], ?_, ?_, ?_⟩
          · exact (((q6.far (p := ⟨w.heap.size + 1, 0, none⟩) (by simp) _).far (p := ⟨w.heap.size + 1, 1, none⟩) (by simp) _).far (p := ⟨w.heap.size + 1, 2, none⟩) (by simp) _).far (p := ⟨w.heap.size + 1, 3, none⟩) (by simp) _
          · exact (((q8.set_ 0 _).set_ 1 _).set_ 2 _).set_ 3 _
          · exact (((hb.setCell (p := ⟨w.heap.size + 1, 0, none⟩) (by simp) _).setCell (p := ⟨w.heap.size + 1, 1, none⟩) (by simp) _).setCell (p := ⟨w.heap.size + 1, 2, none⟩) (by simp) _).setCell (p := ⟨w.heap.size + 1, 3, none⟩) (by simp) _
        case measure => simp [intOf]; omega
      · have hq' : (l[k].key == key) = false ∨ (l[k].key == key) = true ∧ decide (l[k].ts ≤ t) = false := by
          simp only [beq_eq_false_iff_ne, beq_iff_eq, decide_eq_false_iff_not]
          omega
        have HQ := hide hq
        clear hq
        rcases hq' with hq' | ⟨hq', hq2⟩
        all_goals
          go_wp2
          go_roundw
          case rel => exact ⟨k + 1, ⟨vk, vt, vv, vg⟩, by omega, by go_num, by rw [HS.out, if_neg HQ.out]; exact HV.out, q6, q8, hb⟩
          case measure => simp [intOf]; omega
    · have hat : atFold l key t = ⟨vk, vt, vv, vg⟩ := by rw [HV.out, List.take_of_length_le (by omega)]
      have hr : ((vk = 0 ∨ vk ≠ 0 ∧ vg = true) ∧ atR0 l key t = (Ver.zero, false)) ∨ (vk ≠ 0 ∧ vg = false) ∧ atR0 l key t = (⟨vk, vt, vv, vg⟩, true) := by
        unfold atR0
        rw [hat]
        by_cases h0 : vk = 0
        · exact .inl ⟨.inl h0, if_pos (.inl h0)⟩
        · cases vg
          · exact .inr ⟨⟨h0, rfl⟩, if_neg (by simp [h0])⟩
          · exact .inl ⟨.inr ⟨h0, rfl⟩, if_pos (.inr rfl)⟩
      have bs := fun (x y : Value) (z : Value) (u : Value) => (((hb.setCell (p := ⟨w.heap.size, 0, none⟩) (Nat.le_refl _) x).setCell (p := ⟨w.heap.size, 1, none⟩) (Nat.le_refl _) y).setCell (p := ⟨w.heap.size, 2, none⟩) (Nat.le_refl _) z).setCell (p := ⟨w.heap.size, 3, none⟩) (Nat.le_refl _) u
      have HB := hide bs
      clear hat bs
      rcases hr with ⟨h0 | ⟨h0, rfl⟩, hp⟩ | ⟨⟨h0, rfl⟩, hp⟩
      all_goals
        have HP := hide hp
        clear hp
        first | (have h0' := beq_iff_eq.2 h0; clear h0) | (have h0' := beq_eq_false_iff_ne.2 h0; clear h0)
        go_wp2
        refine bodyPost_ret (results_blk2 rfl _ _ w.heap.size 50 _ _ rfl ((((q6.set_ 0 _).set_ 1 _).set_ 2 _).set_ 3 _) Tryz.underlying50 rfl (by kernel_rfl)) rfl ⟨by rw [HP.out]; rfl, HB.out _ _ _ _⟩
end Go.Proofs.YtkchfmhgboiimaaGreat
namespace Go.Proofs.YtkchfmhgboiimaaGreat
open Go.RowKit
def rPutL (l : List Ver) (v : Ver) : List Ver := l.takeWhile (fun x => ltB x.key x.ts v.key v.ts) ++ v :: l.dropWhile (fun x => ltB x.key x.ts v.key v.ts)
def rPutS (l : List Ver) (v : Ver) : List Ver × Int := if !validB l || !wfB v then ([], 1) else if v.ts ≤ newestR l v.key then ([], 30) else if l.length = 4000 then ([], 2) else (rPutL l v, 0)
theorem while_at {α : Type} (p : α → Bool) : ∀ (l : List α) (i : Nat), i ≤ l.length → (∀ j (hj : j < l.length), j < i → p l[j] = true) → (∀ h : i < l.length, p l[i] = false) → l.takeWhile p = l.take i ∧ l.dropWhile p = l.drop i
 | [], i, hi, _, _ => by simp
 | x :: l, 0, _, _, hs => by
  have := hs (by simp); simp only [List.getElem_cons_zero] at this
  simp [this]
 | x :: l, i + 1, hi, h, hs => by
  have h0 := h 0 (by simp) (by omega); simp only [List.getElem_cons_zero] at h0; have ih := while_at p l i (by simpa using hi) (fun j hj hji => by have := h (j + 1) (by simpa using hj) (by omega); simpa using this) (fun h => by have := hs (by simpa using h); simpa using this)
  simp [h0, ih.1, ih.2]
end Go.Proofs.YtkchfmhgboiimaaGreat
namespace Go.Proofs.YtkchfmhgboiimaaGreat
open Go.RowKit
def rOne (l : List Ver) (t : Int) (i : Nat) : Option Ver :=
 if 0 < i ∧ (l.getD (i - 1) Ver.zero).key = (l.getD i Ver.zero).key then none else if (atR0 l (l.getD i Ver.zero).key t).2 = true then some (atR0 l (l.getD i Ver.zero).key t).1 else none
def rReadL (l : List Ver) (t : Int) : List Ver := (List.range l.length).filterMap (rOne l t)
def rReadS (l : List Ver) (t : Int) : List Ver × Int := if !validB l || !stampB t then ([], 1) else (rReadL l t, 0)
theorem range_step {α : Type} (f : Nat → Option α) (i : Nat) : (List.range (i + 1)).filterMap f = (List.range i).filterMap f ++ (f i).toList := by
 rw [List.range_succ, List.filterMap_append]; cases h : f i <;> simp [h]
theorem Rd.new_row2 (w : World) (o : Obj) (t : TypeId) (cs : Array Value) : Rd ((w.alloc o).alloc (.cells cs t)) (some ⟨w.heap.size + 1, 0, none⟩) cs.toList := by
 have := Rd.new_row (w.alloc o) t cs; rw [World.size_alloc] at this; exact this
theorem getD_at {l : List Ver} {i : Nat} (h : i < l.length) : l.getD i Ver.zero = l[i] := by simp [h]
end Go.Proofs.YtkchfmhgboiimaaGreat
namespace Go.Proofs.YtkchfmhgboiimaaGreat
theorem foldl_keep {α β : Type} (p : α → Prop) [DecidablePred p] (f : β → α → β) (b : β) : ∀ l : List α, (∀ v ∈ l, ¬p v) → l.foldl (fun a v => if p v then f a v else a) b = b
 | [], _ => rfl
 | x :: l, h => by
  rw [List.foldl_cons, if_neg (h x (by simp))]; exact foldl_keep p f b l (fun v hv => h v (by simp [hv]))
theorem atFold_none {l : List Ver} {k t : Int} (h : ∀ v ∈ l, ¬(v.key = k ∧ v.ts ≤ t)) : atFold l k t = Ver.zero := foldl_keep (fun v : Ver => v.key = k ∧ v.ts ≤ t) (fun _ v => v) Ver.zero l h
theorem atFold_last {l : List Ver} {k t : Int} {j : Nat} (hj : j < l.length) (hm : l[j].key = k ∧ l[j].ts ≤ t) (h : ∀ i (hi : i < l.length), j < i → ¬(l[i].key = k ∧ l[i].ts ≤ t)) : atFold l k t = l[j] := by
 have e : l = l.take j ++ l[j] :: l.drop (j + 1) := by rw [← List.drop_eq_getElem_cons hj, List.take_append_drop]
 unfold atFold
 conv => lhs; rw [e]
 rw [List.foldl_append, List.foldl_cons, if_pos hm]; refine foldl_keep (fun v : Ver => v.key = k ∧ v.ts ≤ t) (fun _ v => v) l[j] _ fun v hv => ?_
 obtain ⟨i, hi, rfl⟩ := List.getElem_of_mem hv; rw [List.getElem_drop]; exact h _ (by simp at hi; omega) (by omega)
theorem lastV_spec {l : List Ver} (h : l.Pairwise ltV) (k t : Int) :
  (lastV l k t = Ver.zero ∧ ∀ v ∈ l, ¬(v.key = k ∧ v.ts ≤ t)) ∨
  ∃ j, ∃ hj : j < l.length, lastV l k t = l[j] ∧ (l[j].key = k ∧ l[j].ts ≤ t) ∧ ∀ i (hi : i < l.length), j < i → ¬(l[i].key = k ∧ l[i].ts ≤ t) := by
 have hN := upN_spec h k t; obtain ⟨N, hNe⟩ : ∃ N, N = upN l k t := ⟨_, rfl⟩; unfold lastV lastN; rw [← hNe] at hN ⊢; have hup := List.pairwise_iff_getElem.1 h; have hle := hN.le
 by_cases hc : N ≠ 0 ∧ (l.getD (N - 1) Ver.zero).key = k
 ·have hj : N - 1 < l.length := by omega
  rw [if_pos hc, getD_at hj]; rw [getD_at hj] at hc; refine .inr ⟨N - 1, hj, rfl, ⟨hc.2, ?_⟩, fun i hi hji hm => ?_⟩
  ·have := hN.lo (N - 1) hj (by omega); rw [ordI_le] at this; omega
  ·have := hN.hi i hi (by omega); rw [ordI_gt] at this; omega
 ·rw [if_neg hc]; refine .inl ⟨rfl, fun v hv hm => ?_⟩; obtain ⟨i, hi, rfl⟩ := List.getElem_of_mem hv; have hiN : i < N := by
   rcases Nat.lt_or_ge i N with h1 | h1
   ·exact h1
   ·have := hN.hi i hi h1; rw [ordI_gt] at this; omega
  have hj : N - 1 < l.length := by omega
  rw [getD_at hj] at hc; have h1 := hN.lo (N - 1) hj (by omega); rw [ordI_le] at h1; rcases Nat.eq_or_lt_of_le (show i ≤ N - 1 by omega) with rfl | h2
  ·exact hc ⟨by omega, hm.1⟩
  ·have h3 := hup i (N - 1) hi hj h2; unfold ltV at h3; exact hc ⟨by omega, by omega⟩
theorem lastV_fold {l : List Ver} (h : l.Pairwise ltV) (k t : Int) : lastV l k t = atFold l k t := by
 rcases lastV_spec h k t with ⟨h1, h2⟩ | ⟨j, hj, h1, h2, h3⟩
 ·rw [h1, atFold_none h2]
 ·rw [h1, atFold_last hj h2 h3]
theorem newestR_ge {l : List Ver} {k : Int} : ∀ {b : Int}, b ≤ l.foldl (fun a v => if v.key = k then max a v.ts else a) b ∧ ∀ v ∈ l, v.key = k → v.ts ≤ l.foldl (fun a v => if v.key = k then max a v.ts else a) b := by
 induction l with
 | nil => intro b; simp
 | cons x l ih =>
  intro b; rw [List.foldl_cons]
  by_cases hx : x.key = k
  ·rw [if_pos hx]; have := ih (b := max b x.ts); refine ⟨by omega, fun v hv hk => ?_⟩; rcases List.mem_cons.1 hv with rfl | hv
   ·omega
   ·exact this.2 v hv hk
  ·rw [if_neg hx]; have := ih (b := b); refine ⟨this.1, fun v hv hk => ?_⟩; rcases List.mem_cons.1 hv with rfl | hv
   ·exact absurd hk hx
   ·exact this.2 v hv hk
theorem newestR_in {l : List Ver} {k : Int} : ∀ {b : Int}, l.foldl (fun a v => if v.key = k then max a v.ts else a) b = b ∨ ∃ v ∈ l, v.key = k ∧ v.ts = l.foldl (fun a v => if v.key = k then max a v.ts else a) b := by
 induction l with
 | nil => intro b; simp
 | cons x l ih =>
  intro b; rw [List.foldl_cons]
  by_cases hx : x.key = k
  ·rw [if_pos hx]; rcases ih (b := max b x.ts) with h | ⟨v, hv, hk, ht⟩
   ·by_cases hm : b ≤ x.ts
    ·exact .inr ⟨x, by simp, hx, by rw [h]; omega⟩
    ·exact .inl (by rw [h]; omega)
   ·exact .inr ⟨v, by simp [hv], hk, ht⟩
  ·rw [if_neg hx]; rcases ih (b := b) with h | ⟨v, hv, hk, ht⟩
   ·exact .inl h
   ·exact .inr ⟨v, by simp [hv], hk, ht⟩
theorem Sto.ts {l : List Ver} (h : Sto l) {v : Ver} (hv : v ∈ l) : 1 ≤ v.key ∧ v.key ≤ 1000 ∧ 1 ≤ v.ts ∧ v.ts ≤ 3000000000000000 := by
 have := h.wf v hv; simp only [wfB, Bool.and_eq_true, decide_eq_true_eq] at this; omega
theorem newest_eq {l : List Ver} (h : Sto l) (k : Int) : (lastV l k 3000000000000000).ts = newestR l k := by
 have hge := newestR_ge (l := l) (k := k) (b := 0); have hin := newestR_in (l := l) (k := k) (b := 0); have hup := List.pairwise_iff_getElem.1 h.up
 change 0 ≤ newestR l k ∧ ∀ v ∈ l, v.key = k → v.ts ≤ newestR l k at hge
 change newestR l k = 0 ∨ ∃ v ∈ l, v.key = k ∧ v.ts = newestR l k at hin
 rcases lastV_spec h.up k 3000000000000000 with ⟨h1, h2⟩ | ⟨j, hj, h1, h2, h3⟩
 ·rw [h1]; rcases hin with h0 | ⟨v, hv, hk, ht⟩
  ·rw [h0]; rfl
  ·exact absurd ⟨hk, (h.ts hv).2.2.2⟩ (h2 v hv)
 ·rw [h1]; have hj1 := h.ts (List.getElem_mem hj); have hjn := hge.2 _ (List.getElem_mem hj) h2.1; rcases hin with h0 | ⟨v, hv, hk, ht⟩
  ·omega
  ·obtain ⟨i, hi, rfl⟩ := List.getElem_of_mem hv; rcases Nat.lt_trichotomy i j with hij | rfl | hij
   ·have := hup i j hi hj hij; unfold ltV at this; omega
   ·exact ht
   ·exact absurd ⟨hk, (h.ts hv).2.2.2⟩ (h3 i hi hij)
theorem lastV_key0 {l : List Ver} (h : Sto l) (k t : Int) : lastV l k t = Ver.zero ↔ (lastV l k t).key = 0 := by
 constructor
 ·intro e; rw [e]; rfl
 ·intro e; rcases lastV_spec h.up k t with ⟨h1, h2⟩ | ⟨j, hj, h1, h2, h3⟩
  ·exact h1
  ·rw [h1] at e; have := h.ts (List.getElem_mem hj); omega
theorem showV_eq {l : List Ver} (h : Sto l) (k t : Int) : showV (lastV l k t) = if (atR0 l k t).2 = true then some (atR0 l k t).1 else none := by
 unfold showV atR0; rw [← lastV_fold h.up]; have hz := lastV_key0 h k t
 by_cases hc : (lastV l k t).key = 0 ∨ (lastV l k t).gone = true
 ·rw [if_pos hc, if_pos (show lastV l k t = Ver.zero ∨ _ from hc.imp hz.2 id)]; rfl
 ·rw [if_neg hc, if_neg (show ¬(lastV l k t = Ver.zero ∨ _) from fun h => hc (h.imp hz.1 id))]; rfl
theorem heads_range : ∀ (l : List Ver) (p : Option Int), heads p l = (List.range l.length).filterMap (fun i => if (if i = 0 then p else some (l.getD (i - 1) Ver.zero).key) = some (l.getD i Ver.zero).key then none else some (l.getD i Ver.zero).key)
  | [], p => rfl
  | v :: l, p => by
    rw [List.length_cons, List.range_succ_eq_map, List.filterMap_cons, List.filterMap_map, heads]
    have ih := heads_range l (some v.key)
    have e : (List.range l.length).filterMap (fun i => if (if i = 0 then (some v.key) else some (l.getD (i - 1) Ver.zero).key) = some (l.getD i Ver.zero).key then none else some (l.getD i Ver.zero).key) =
        (List.range l.length).filterMap ((fun i => if (if i = 0 then p else some ((v :: l).getD (i - 1) Ver.zero).key) = some ((v :: l).getD i Ver.zero).key then none else some ((v :: l).getD i Ver.zero).key) ∘ Nat.succ) := by
      refine congrArg (fun f => List.filterMap f _) (funext fun i => ?_)
      cases i <;> simp
    by_cases hp : p = some v.key
    · rw [if_pos hp]
      simp only [if_true, List.getD_cons_zero, hp]
      rw [ih, e, hp]
    · rw [if_neg hp]
      simp only [if_true, List.getD_cons_zero, hp]
      rw [ih, e]
      simp
theorem readL_eq {l : List Ver} (h : Sto l) (t : Int) : readL l t = rReadL l t := by
 unfold readL rReadL; rw [heads_range, List.filterMap_filterMap]; refine congrArg (fun f => List.filterMap f _) (funext fun i => ?_); unfold rOne; rw [← showV_eq h]
 by_cases hi : i = 0
 ·simp [hi]
 ·by_cases hk : (l.getD (i - 1) Ver.zero).key = (l.getD i Ver.zero).key
  ·rw [if_neg hi, if_pos (by rw [hk]), if_pos ⟨by omega, hk⟩]; rfl
  ·rw [if_neg hi, if_neg (by simpa using hk), if_neg (fun h => hk h.2)]; rfl
theorem readS_eq (l : List Ver) (t : Int) : readS l t = rReadS l t := by
 unfold readS rReadS; cases hv : validB l
 ·rfl
 ·rw [readL_eq ((sto_iff l).1 hv)]
theorem takeWhile_congr {α : Type} {p q : α → Bool} : ∀ {l : List α}, (∀ v ∈ l, p v = q v) → l.takeWhile p = l.takeWhile q ∧ l.dropWhile p = l.dropWhile q
 | [], _ => ⟨rfl, rfl⟩
 | x :: l, h => by
  have ih := takeWhile_congr (l := l) (p := p) (q := q) (fun v hv => h v (by simp [hv])); have hx := h x (by simp)
  simp [List.takeWhile_cons, List.dropWhile_cons, hx, ih.1, ih.2]
theorem drop_while {α : Type} (p : α → Bool) : ∀ l : List α, l.drop (l.takeWhile p).length = l.dropWhile p ∧ l.take (l.takeWhile p).length = l.takeWhile p
 | [] => ⟨rfl, rfl⟩
 | x :: l => by
  have := drop_while p l; cases hx : p x <;> simp [hx, this.1, this.2]
theorem putL_eq {l : List Ver} {v : Ver} (hn : newestR l v.key < v.ts) : putL l v = rPutL l v := by
 have hge := newestR_ge (l := l) (k := v.key) (b := 0)
 change 0 ≤ newestR l v.key ∧ ∀ x ∈ l, x.key = v.key → x.ts ≤ newestR l v.key at hge
 have hc := takeWhile_congr (l := l) (p := fun x : Ver => decide (ordI x.key x.ts v.key v.ts ≤ 0)) (q := fun x : Ver => ltB x.key x.ts v.key v.ts) (fun x hx => by
  rw [Bool.eq_iff_iff, decide_eq_true_eq, ordI_le]; simp only [ltB, Bool.or_eq_true, Bool.and_eq_true, decide_eq_true_eq, beq_iff_eq]; have := hge.2 x hx; omega)
 unfold putL rPutL upN; rw [(drop_while _ l).1, (drop_while _ l).2, hc.1, hc.2]
theorem putS_eq (l : List Ver) (v : Ver) : putS l v = rPutS l v := by
 unfold putS rPutS; cases hv : validB l
 ·rfl
 ·rw [newest_eq ((sto_iff l).1 hv)]
  by_cases hn : v.ts ≤ newestR l v.key
  ·simp [hn]
  ·rw [putL_eq (by omega)]
end Go.Proofs.YtkchfmhgboiimaaGreat
namespace Go.Proofs.YtkchfmhgboiimaaGreat
theorem put_parts {l : List Ver} {v : Ver} (h : Sto l) (hn : newestR l v.key < v.ts) : ∃ xs ys, l = xs ++ ys ∧ putL l v = xs ++ v :: ys ∧ (∀ x ∈ xs, ltV x v) ∧ ∀ y ∈ ys, ltV v y := by
 have hN := upN_spec h.up v.key v.ts; have hge := (newestR_ge (l := l) (k := v.key) (b := 0)).2
 change ∀ x ∈ l, x.key = v.key → x.ts ≤ newestR l v.key at hge
 refine ⟨l.take (upN l v.key v.ts), l.drop (upN l v.key v.ts), (List.take_append_drop _ _).symm, rfl, fun x hx => ?_, fun y hy => ?_⟩
 ·obtain ⟨j, hj, rfl⟩ := List.getElem_of_mem hx; rw [List.getElem_take]; simp only [List.length_take] at hj; have h1 := hN.lo j (by omega) (by omega); have h2 := hge l[j] (List.getElem_mem _); rw [ordI_le] at h1; unfold ltV; omega
 ·obtain ⟨j, hj, rfl⟩ := List.getElem_of_mem hy; rw [List.getElem_drop]; simp only [List.length_drop] at hj; have h1 := hN.hi (upN l v.key v.ts + j) (by omega) (by omega); rw [ordI_gt] at h1; unfold ltV; omega
theorem putL_len (l : List Ver) (v : Ver) : (putL l v).length = l.length + 1 := by
 unfold putL; rw [List.length_append, List.length_cons, ← Nat.add_assoc, ← List.length_append, List.take_append_drop]
theorem sto_put {l : List Ver} {v : Ver} (h : Sto l) (hw : wfB v = true) (hn : newestR l v.key < v.ts) (hl : l.length < 4000) : Sto (putL l v) := by
 have hlen := putL_len l v; obtain ⟨xs, ys, rfl, e, hx, hy⟩ := put_parts h hn; rw [e] at hlen ⊢; have hup := List.pairwise_append.1 h.up; refine ⟨fun u hu => ?_, ?_, by omega⟩
 ·rcases List.mem_append.1 hu with hu | hu
  ·exact h.wf u (List.mem_append.2 (.inl hu))
  ·rcases List.mem_cons.1 hu with rfl | hu
   ·exact hw
   ·exact h.wf u (List.mem_append.2 (.inr hu))
 ·refine List.pairwise_append.2 ⟨hup.1, List.pairwise_cons.2 ⟨hy, hup.2.1⟩, fun a ha b hb => ?_⟩; rcases List.mem_cons.1 hb with rfl | hb
  ·exact hx a ha
  ·exact hup.2.2 a ha b hb
theorem atFold_hit {l : List Ver} {v : Ver} {k t : Int} (h : Sto l) (hn : newestR l v.key < v.ts) (hk : v.key = k) (ht : v.ts ≤ t) : atFold (putL l v) k t = v := by
 obtain ⟨xs, ys, rfl, e, hx, hy⟩ := put_parts h hn; have hge := (newestR_ge (l := xs ++ ys) (k := v.key) (b := 0)).2
 change ∀ x ∈ xs ++ ys, x.key = v.key → x.ts ≤ newestR (xs ++ ys) v.key at hge
 rw [e]; unfold atFold; rw [List.foldl_append, List.foldl_cons, if_pos ⟨hk, ht⟩]; refine foldl_keep (fun u : Ver => u.key = k ∧ u.ts ≤ t) (fun _ u => u) v ys fun u hu hm => ?_
 have h1 := hy u hu; have h2 := hge u (List.mem_append.2 (.inr hu)); unfold ltV at h1; omega
theorem atFold_miss {l : List Ver} {v : Ver} {k t : Int} (h : Sto l) (hn : newestR l v.key < v.ts) (hm : ¬(v.key = k ∧ v.ts ≤ t)) : atFold (putL l v) k t = atFold l k t := by
 obtain ⟨xs, ys, rfl, e, hx, hy⟩ := put_parts h hn; rw [e]; unfold atFold; rw [List.foldl_append, List.foldl_cons, if_neg hm, ← List.foldl_append]
end Go.Proofs.YtkchfmhgboiimaaGreat
namespace Go.Proofs.YtkchfmhgboiimaaGreat
theorem sorted_ext {α : Type} {r : α → α → Prop} (hi : ∀ a, ¬r a a) (ht : ∀ a b c, r a b → r b c → r a c) : ∀ {l l' : List α}, l.Pairwise r → l'.Pairwise r → (∀ x, x ∈ l ↔ x ∈ l') → l = l'
 | [], [], _, _, _ => rfl
 | [], y :: l', _, _, h => absurd ((h y).2 (by simp)) (by simp)
 | x :: l, [], _, _, h => absurd ((h x).1 (by simp)) (by simp)
 | x :: l, y :: l', h1, h2, h => by
  have p1 := List.pairwise_cons.1 h1; have p2 := List.pairwise_cons.1 h2; have e : x = y := by
   rcases List.mem_cons.1 ((h x).1 (by simp)) with e | hx
   ·exact e
   ·rcases List.mem_cons.1 ((h y).2 (by simp)) with e | hy
    ·exact e.symm
    ·exact absurd (ht _ _ _ (p1.1 y hy) (p2.1 x hx)) (hi x)
  subst e; have hn : ∀ {m : List α}, (∀ a ∈ m, r x a) → x ∉ m := fun hm hx => hi x (hm x hx)
  refine congrArg (x :: ·) (sorted_ext hi ht p1.2 p2.2 fun z => ?_); constructor
  ·intro hz; rcases List.mem_cons.1 ((h z).1 (by simp [hz])) with e | hz'
   ·subst e; exact absurd hz (hn p1.1)
   ·exact hz'
  ·intro hz; rcases List.mem_cons.1 ((h z).2 (by simp [hz])) with e | hz'
   ·subst e; exact absurd hz (hn p2.1)
   ·exact hz'
end Go.Proofs.YtkchfmhgboiimaaGreat
namespace Go.Proofs.YtkchfmhgboiimaaGreat
theorem newest_in {l : List Ver} {k : Int} : newestR l k = 0 ∨ ∃ v ∈ l, v.key = k ∧ v.ts = newestR l k := newestR_in (l := l) (k := k) (b := 0)
theorem putL_perm (l : List Ver) (v : Ver) : (putL l v).Perm (v :: l) := by
 unfold putL; refine List.perm_middle.trans (.cons _ ?_); rw [List.take_append_drop]
theorem put_eq {l : List Ver} {v : Ver} (h : Sto l) (hw : wfB v = true) (hl : l.length < 4000) (hn : ∀ x ∈ l, x.key = v.key → x.ts < v.ts) : putS l v = (putL l v, 0) ∧ Sto (putL l v) := by
 have h1 : newestR l v.key < v.ts := by
  rcases newest_in (l := l) (k := v.key) with e | ⟨x, hx, hk, ht⟩
  ·simp only [wfB, Bool.and_eq_true, decide_eq_true_eq] at hw; omega
  ·have := hn x hx hk; omega
 refine ⟨?_, sto_put h hw h1 hl⟩; unfold putS; rw [(sto_iff l).2 h, hw, newest_eq h, if_neg (by simp), if_neg (by omega), if_neg (by omega)]
theorem ltV_irrefl (a : Ver) : ¬ltV a a := by unfold ltV; omega
theorem sto_ext {l l' : List Ver} (h : Sto l) (h' : Sto l') (hp : l.Perm l') : l = l' :=
 sorted_ext ltV_irrefl (fun _ _ _ => ltV_trans) h.up h'.up fun _ => hp.mem_iff
structure Part (l b left : List Ver) : Prop where
 sto : Sto b
 perm : (b ++ left).Perm l
 up : ∀ x ∈ b, ∀ y ∈ left, x.ts ≤ y.ts
theorem Part.start {l : List Ver} : Part l [] l := ⟨⟨by simp, .nil, by simp⟩, .refl _, by simp⟩
theorem Part.done {l b : List Ver} (hs : Sto l) (h : Part l b []) : b = l := sto_ext h.sto hs (by simpa using h.perm)
theorem Part.len {l b left : List Ver} (h : Part l b left) : b.length + left.length = l.length := by rw [← h.perm.length_eq, List.length_append]
theorem Part.next {l b left : List Ver} (hs : Sto l) (h : Part l b left) {at_ : Nat} (ha : at_ < left.length) (hmin : ∀ j (hj : j < left.length), left[at_].ts ≤ left[j].ts) :
  putS b left[at_] = (putL b left[at_], 0) ∧ Part l (putL b left[at_]) (left.take at_ ++ left.drop (at_ + 1)) := by
 have hlen := h.len; have hl4 := hs.len; have hmem : left[at_] ∈ l := h.perm.mem_iff.1 (List.mem_append.2 (.inr (List.getElem_mem ha))); have hnd : (b ++ left).Pairwise (fun a c => ¬(a.key = c.key ∧ a.ts = c.ts)) := by
  have h1 : l.Pairwise (fun a c => ¬(a.key = c.key ∧ a.ts = c.ts)) := hs.up.imp fun h => by unfold ltV at h; omega
  exact (h.perm.pairwise_iff (fun {a c} h => by rintro ⟨e1, e2⟩; exact h ⟨e1.symm, e2.symm⟩)).2 h1
 have hdis := (List.pairwise_append.1 hnd).2.2; obtain ⟨h1, h2⟩ := put_eq h.sto (hs.wf _ hmem) (by omega) (fun x hx hkey => by
  have h3 := h.up x hx _ (List.getElem_mem ha); have h4 := hdis x hx _ (List.getElem_mem ha); omega)
 have hsub : ∀ y ∈ left.take at_ ++ left.drop (at_ + 1), y ∈ left := fun y hy => by
  rcases List.mem_append.1 hy with hy | hy
  ·exact List.mem_of_mem_take hy
  ·exact List.mem_of_mem_drop hy
 refine ⟨h1, h2, ?_, fun x hx y hy => ?_⟩
 ·refine List.Perm.trans ?_ h.perm; refine ((putL_perm _ _).append_right _).trans ?_; refine List.Perm.trans (l₂ := b ++ (left[at_] :: (left.take at_ ++ left.drop (at_ + 1)))) ?_ ?_
  ·exact (List.perm_middle (l₁ := b) (l₂ := left.take at_ ++ left.drop (at_ + 1)) (a := left[at_])).symm
  ·refine List.Perm.append_left b ?_; refine (List.perm_middle (l₁ := left.take at_) (l₂ := left.drop (at_ + 1)) (a := left[at_])).symm.trans ?_; rw [← List.drop_eq_getElem_cons ha, List.take_append_drop]
 ·have hy' := hsub y hy; rcases List.mem_cons.1 ((putL_perm _ _).mem_iff.1 hx) with rfl | hx
  ·obtain ⟨j, hj, rfl⟩ := List.getElem_of_mem hy'; exact hmin j hj
  ·exact h.up x hx y hy'
end Go.Proofs.YtkchfmhgboiimaaGreat
namespace Go.Proofs
open Go.Shelf
def Tryz.lays189_ren : Go.Shelf.Ren := ⟨fun | 189 => 47 | 125 => 78 | 257 => 77 | 128 => 108 | 129 => 109 | 294 => 99 | 295 => 100 | 296 => 101 | 297 => 102 | 298 => 103 | 299 => 104 | 216 => 105 | 300 => 106 | 301 => 107 | 328 => 119 | 329 => 120 | 330 => 121 | 331 => 122 | 332 => 123 | 215 => 64 | 343 => 126 | n => n, fun | 28 => 23 | 3 => 3 | 46 => 103 | 0 => 0 | 51 => 129 | 53 => 131 | 4 => 4 | 183 => 121 | 182 => 120 | 131 => 126 | 5 => 5 | 9 => 9 | 218 => 137 | 222 => 141 | 228 => 144 | 229 => 145 | n => n, fun | n => n⟩
theorem Tryz.lays189 : Go.Proofs.Lays.n189 Tryz.prog Tryz.lays189_ren := {
 mixed := by kernel_rfl
 f125 := Tryz.func78.trans (congrArg some (by kernel_rfl))
 f128 := Tryz.func108.trans (congrArg some (by kernel_rfl))
 f129 := Tryz.func109.trans (congrArg some (by kernel_rfl))
 f189 := Tryz.func47.trans (congrArg some (by kernel_rfl))
 f215 := Tryz.func64.trans (congrArg some (by kernel_rfl))
 f216 := Tryz.func105.trans (congrArg some (by kernel_rfl))
 f257 := Tryz.func77.trans (congrArg some (by kernel_rfl))
 f294 := Tryz.func99.trans (congrArg some (by kernel_rfl))
 f295 := Tryz.func100.trans (congrArg some (by kernel_rfl))
 f296 := Tryz.func101.trans (congrArg some (by kernel_rfl))
 f297 := Tryz.func102.trans (congrArg some (by kernel_rfl))
 f298 := Tryz.func103.trans (congrArg some (by kernel_rfl))
 f299 := Tryz.func104.trans (congrArg some (by kernel_rfl))
 f300 := Tryz.func106.trans (congrArg some (by kernel_rfl))
 f301 := Tryz.func107.trans (congrArg some (by kernel_rfl))
 f328 := Tryz.func119.trans (congrArg some (by kernel_rfl))
 f329 := Tryz.func120.trans (congrArg some (by kernel_rfl))
 f330 := Tryz.func121.trans (congrArg some (by kernel_rfl))
 f331 := Tryz.func122.trans (congrArg some (by kernel_rfl))
 f332 := Tryz.func123.trans (congrArg some (by kernel_rfl))
 f343 := Tryz.func126.trans (congrArg some (by kernel_rfl))
 t0 := Tryz.underlying0
 a0 := Tryz.isAgg0
 z0 := Tryz.sizeOf0
 v0 := Tryz.zeroValue0
 t3 := Tryz.underlying3
 a3 := Tryz.isAgg3
 z3 := Tryz.sizeOf3
 v3 := Tryz.zeroValue3
 t4 := Tryz.underlying4
 a4 := Tryz.isAgg4
 z4 := Tryz.sizeOf4
 v4 := Tryz.zeroValue4
 t5 := Tryz.underlying5
 a5 := Tryz.isAgg5
 z5 := Tryz.sizeOf5
 v5 := Tryz.zeroValue5
 t9 := Tryz.underlying9
 a9 := Tryz.isAgg9
 z9 := Tryz.sizeOf9
 v9 := Tryz.zeroValue9
 t28 := Tryz.underlying23
 a28 := Tryz.isAgg23
 z28 := Tryz.sizeOf23
 v28 := Tryz.zeroValue23
 t46 := Tryz.underlying103
 a46 := Tryz.isAgg103
 z46 := Tryz.sizeOf103
 v46 := Tryz.zeroValue103
 t51 := Tryz.underlying129
 a51 := Tryz.isAgg129
 z51 := Tryz.sizeOf129
 v51 := Tryz.zeroValue129
 t53 := Tryz.underlying131
 a53 := Tryz.isAgg131
 z53 := Tryz.sizeOf131
 v53 := Tryz.zeroValue131
 t131 := Tryz.underlying126
 a131 := Tryz.isAgg126
 z131 := Tryz.sizeOf126
 v131 := Tryz.zeroValue126
 t182 := Tryz.underlying120
 a182 := Tryz.isAgg120
 z182 := Tryz.sizeOf120
 v182 := Tryz.zeroValue120
 t183 := Tryz.underlying121
 a183 := Tryz.isAgg121
 z183 := Tryz.sizeOf121
 v183 := Tryz.zeroValue121
 t218 := Tryz.underlying137
 a218 := Tryz.isAgg137
 z218 := Tryz.sizeOf137
 v218 := Tryz.zeroValue137
 t222 := Tryz.underlying141
 a222 := Tryz.isAgg141
 z222 := Tryz.sizeOf141
 v222 := Tryz.zeroValue141
 t228 := Tryz.underlying144
 a228 := Tryz.isAgg144
 z228 := Tryz.sizeOf144
 v228 := Tryz.zeroValue144
 t229 := Tryz.underlying145
 a229 := Tryz.isAgg145
 z229 := Tryz.sizeOf145
 v229 := Tryz.zeroValue145 }
open Go.Sort Go.RowKit in
theorem Tryz.slices_Sort_int (blk off cap : Nat) (zs : List Int) (w : World) (hH : Holds (Value.int .i64) w blk off zs.toArray) (hblk : blk < w.heap.size) (hsz : zs.length < 4611686018427387904) :
  Calls Tryz.prog 47 #[.slice (some ⟨blk, off, none⟩) zs.length cap] w fun e w' =>
   e = .returned (.tuple #[]) ∧ ∃ n os, w' = grow (putRow (Value.int .i64) (Sort.ahead w n) blk off (zs.mergeSort fun x y => decide (x ≤ y)).toArray) os := Any.slices_Sort_int Tryz.lays189 blk off cap zs w hH hblk hsz
def Tryz.laysNm220_ren : Go.Shelf.Ren := ⟨fun | 20 => 52 | n => n, fun | 22 => 23 | 3 => 3 | 4 => 4 | 0 => 0 | n => n, fun | n => n⟩
theorem Tryz.laysNm220 : Go.Proofs.Lays2.n20 Tryz.prog Tryz.laysNm220_ren := {
 mixed := by kernel_rfl
 f20 := Tryz.func52.trans (congrArg some (by kernel_rfl))
 t0 := Tryz.underlying0
 a0 := Tryz.isAgg0
 z0 := Tryz.sizeOf0
 v0 := Tryz.zeroValue0
 t3 := Tryz.underlying3
 a3 := Tryz.isAgg3
 z3 := Tryz.sizeOf3
 v3 := Tryz.zeroValue3
 t4 := Tryz.underlying4
 a4 := Tryz.isAgg4
 z4 := Tryz.sizeOf4
 v4 := Tryz.zeroValue4
 t22 := Tryz.underlying23
 a22 := Tryz.isAgg23
 z22 := Tryz.sizeOf23
 v22 := Tryz.zeroValue23
 i3 := by kernel_rfl }
open Go.RowKit Go.Lib Go.Sort in
theorem Tryz.slices_Compact_int (blk off cap : Nat) (zs : List Int) (w : World) (hH : Holds (Value.int .i64) w blk off zs.toArray) (hsz : zs.length ≤ 9223372036854775807) (hcap : zs.length ≤ cap) :
  Calls Tryz.prog 52 #[.slice (some ⟨blk, off, none⟩) zs.length cap] w fun e w' => e = .returned (.slice (some ⟨blk, off, none⟩) (Lib.compact zs).length cap) ∧ ∃ q, w' = putRow (Value.int .i64) (Sort.ahead w q) blk off (Lib.compact zs ++ List.replicate (zs.length - (Lib.compact zs).length) 0).toArray := Any.slices_Compact_int Tryz.laysNm220 blk off cap zs w hH hsz hcap
open Go.RowKit Go.Lib Go.Sort in
theorem Tryz.slices_Compact_int_empty (a : Option Addr) (cap : Nat) (w : World) :
  Calls Tryz.prog 52 #[.slice a 0 cap] w fun e w' => e = .returned (.slice a 0 cap) ∧ w' = w := Any.slices_Compact_int_empty Tryz.laysNm220 a cap w
open Go.RowKit Go.Sort in
theorem Tryz.slices_Sort_int_none (p : Option Addr) (cap : Nat) (w : World) :
  Calls Tryz.prog 47 #[.slice p 0 cap] w fun e w' => e = .returned (.tuple #[]) ∧ w' = w := Any.slices_Sort_int_none Tryz.lays189 p cap w
end Go.Proofs
namespace Go.Proofs.YtkchfmhgboiimaaGreat
open Go.RowKit Go.Sort
def insI (x : Int) : List Int → List Int
 | [] => [x]
 | y :: l => if x ≤ y then x :: y :: l else y :: insI x l
def srtI : List Int → List Int
 | [] => []
 | x :: l => insI x (srtI l)
theorem insI_perm (x : Int) : ∀ l : List Int, (insI x l).Perm (x :: l)
 | [] => .refl _
 | y :: l => by
  unfold insI
  split
  ·exact .refl _
  ·exact ((insI_perm x l).cons y).trans (.swap x y l)
theorem srtI_perm : ∀ l : List Int, (srtI l).Perm l
 | [] => .refl _
 | x :: l => (insI_perm x (srtI l)).trans ((srtI_perm l).cons x)
theorem insI_up (x : Int) : ∀ {l : List Int}, l.Pairwise (· ≤ ·) → (insI x l).Pairwise (· ≤ ·)
 | [], _ => by simp [insI]
 | y :: l, h => by
  have h' := List.pairwise_cons.1 h; unfold insI
  split
  ·next hc =>
   refine List.pairwise_cons.2 ⟨fun z hz => ?_, h⟩; rcases List.mem_cons.1 hz with rfl | hz
   ·exact hc
   ·exact Int.le_trans hc (h'.1 z hz)
  ·next hc =>
   refine List.pairwise_cons.2 ⟨fun z hz => ?_, insI_up x h'.2⟩; rcases List.mem_cons.1 ((insI_perm x l).mem_iff.1 hz) with rfl | hz
   ·omega
   ·exact h'.1 z hz
theorem srtI_up : ∀ l : List Int, (srtI l).Pairwise (· ≤ ·)
 | [] => .nil
 | x :: l => insI_up x (srtI_up l)
theorem up_uniq : ∀ {l l' : List Int}, l.Pairwise (· ≤ ·) → l'.Pairwise (· ≤ ·) → l.Perm l' → l = l'
 | [], l', _, _, h => (List.nil_perm.1 h).symm
 | x :: l, [], _, _, h => absurd h.length_eq (by simp)
 | x :: l, y :: l', h1, h2, h => by
  have a1 := List.pairwise_cons.1 h1; have a2 := List.pairwise_cons.1 h2; have e : x = y := by
   rcases List.mem_cons.1 (h.mem_iff.1 List.mem_cons_self) with e | hx
   ·exact e
   ·rcases List.mem_cons.1 (h.mem_iff.2 List.mem_cons_self) with e | hy
    ·exact e.symm
    ·have := a1.1 y hy; have := a2.1 x hx; omega
  subst e; rw [up_uniq a1.2 a2.2 h.cons_inv]
theorem srt_merge (l : List Int) : (l.mergeSort fun x y => decide (x ≤ y)) = srtI l := by
 have h1 := List.pairwise_mergeSort (le := fun x y : Int => decide (x ≤ y)) (fun a b c h1 h2 => by simp only [decide_eq_true_eq] at *; omega) (fun a b => by simp only [Bool.or_eq_true, decide_eq_true_eq]; omega) l; exact up_uniq (h1.imp fun h => by simpa using h) (srtI_up l) ((List.mergeSort_perm l _).trans (srtI_perm l).symm)
theorem srtI_len (l : List Int) : (srtI l).length = l.length := (srtI_perm l).length_eq
def srtG (l : List Int) : Option (List Int) := if l.length < 4611686018427387904 then some (srtI l) else none
theorem srtG_some {l r : List Int} (h : srtG l = some r) : l.length < 4611686018427387904 ∧ r = srtI l := by
 unfold srtG at h
 split at h
 ·next hc => exact ⟨hc, (Option.some.inj h).symm⟩
 ·cases h
def srtA (l : List Int) : Option (List Int) := if l.length * 8 ≤ 140737488351232 then some (srtI l) else none
theorem srtA_some {l r : List Int} (h : srtA l = some r) : l.length * 8 ≤ 140737488351232 ∧ r = srtI l := by
 unfold srtA at h
 split at h
 ·next hc => exact ⟨hc, (Option.some.inj h).symm⟩
 ·cases h
theorem srtG_len {l r : List Int} (h : srtG l = some r) : r.length = l.length := by rw [(srtG_some h).2, srtI_len]
section
variable {S0 S : Nat → Prop} {w0 w w' : World} {n : Nat} {K K' : List (Nat × Value)} {E E' : List Iz} {X : Act → World → Prop} {P : Program} {ops : Array Oper} {Q : Exit → Act → World → Prop} {o : Oper} {L : List Oper} {v v' : Value} {Kx : Act → World → Prop}
variable {e : TypeId}
theorem flat_i (l : List Int) : l.flatMap c_i64 = l.map (Value.int .i64) := by
 induction l with
 | nil => rfl
 | cons x l ih => rw [List.flatMap_cons, ih]; rfl
theorem inp {f : FuncId} (i : Nat) (A : Option Addr) (c k0 : Nat) (l r : List Int) (hk : k0 = l.length) (hr : r.length = l.length) (hA : Act → Act)
    (H1 : ∀ g w, A = some ⟨g, 0, none⟩ → Holds (Value.int .i64) w g 0 l.toArray → g < w.heap.size → l.length ≤ c → c ≤ maxLen → Calls P f #[.slice (some ⟨g, 0, none⟩) l.length c] w fun e w' => e = .returned v ∧ ∃ q os, w' = grow (putRow (Value.int .i64) (Sort.ahead w q) g 0 r.toArray) os)
    (H2 : ∀ w, l = [] → Calls P f #[.slice A 0 c] w fun e w' => e = .returned v ∧ w' = w)
    (h : ∀ a w S, Kn n K a → Ez S0 w0 w S (setz E i (.own e 1 (.slice A k0 c) k0 (r.flatMap c_i64))) → Kx (hA a) w) (hi : ownT E i = some (e, 1, .slice A k0 c, k0, l.flatMap c_i64)) :
    ∀ a w S, Kn n K a → Ez S0 w0 w S E → Calls P f #[.slice A k0 c] w fun e w' => e = .returned v ∧ Kx (hA a) w' := fun a w S hK hE => by
  subst hk
  have h1 := hE.at (own_at' hi)
  obtain ⟨b, hb, hro⟩ := Es.row hE i h1
  by_cases hl : l = []
  · subst hl
    have hr0 : r = [] := List.eq_nil_of_length_eq_zero hr
    subst hr0
    refine (H2 w rfl).mono ?_
    rintro e' w' ⟨rfl, rfl⟩
    refine ⟨rfl, h a w' S hK ?_⟩
    unfold Ez
    rw [setz_map]
    rw [show (E.map Iz.ik).set i (Iz.own e 1 (.slice A ([] : List Int).length c) ([] : List Int).length (([] : List Int).flatMap c_i64)).ik = E.map Iz.ik from by
      apply List.ext_getElem?
      intro j
      rw [List.getElem?_set]
      split
      · next ej => subst ej; split
                   · exact h1.symm
                   · next hl => rw [List.getElem?_eq_none (by omega)]
      · rfl]
    exact hE
  · rcases hro.2 with ⟨_, h0⟩ | ⟨g, cap, cur, hv, hbg, hh, hle, hcap, hsz, htk⟩
    · exact absurd (List.eq_nil_of_length_eq_zero h0) hl
    · injection hv with e1 e2 e3
      subst e1 e3
      rw [Nat.mul_one, flat_i] at htk
      refine (H1 g w rfl (holds_of_blockI hh htk) (Array.getElem?_eq_some_iff.1 hh).1 hle hcap).mono ?_
      rintro e' w' ⟨rfl, q, os, rfl⟩
      refine ⟨rfl, h a _ S hK ?_⟩
      unfold Ez
      rw [setz_map]
      refine Es.grow hE (grownBy_sortedI _) (.inl rfl) (fun b' hro' hbw => ?_) h1
      rcases hro'.2 with ⟨hx, _⟩ | ⟨g', cap', cur', hv', hbg', hh', hle', hcap', hsz', htk'⟩
      · cases hx
      · injection hv' with e1 e2 e3
        injection e1 with e1
        injection e1 with e1
        subst e1 e3
        rw [flat_i]
        exact ownsRow_sortedI hr hbg' hh' hle' hcap' hsz'
theorem srt {f : FuncId} (i d : Nat) (A : Option Addr) (c k0 : Nat) (l : List Int) {r : List Int} (hk : k0 = l.length) (hy : srtG l = some r)
  (H1 : ∀ (blk off cap : Nat) (zs : List Int) (w : World), Holds (Value.int .i64) w blk off zs.toArray → blk < w.heap.size → zs.length < 4611686018427387904 → Calls P f #[.slice (some ⟨blk, off, none⟩) zs.length cap] w fun e w' => e = .returned (.tuple #[]) ∧ ∃ n os, w' = grow (putRow (Value.int .i64) (Sort.ahead w n) blk off (zs.mergeSort fun x y => decide (x ≤ y)).toArray) os)
  (H2 : ∀ (p : Option Addr) (cap : Nat) (w : World), Calls P f #[.slice p 0 cap] w fun e w' => e = .returned (.tuple #[]) ∧ w' = w)
  (h : Ge S0 w0 n ((d, .tuple #[]) :: K) (setz E i (.own e 1 (.slice A k0 c) k0 (r.flatMap c_i64))) Kx) (hi : ownT E i = some (e, 1, .slice A k0 c, k0, l.flatMap c_i64) := by kernel_rfl)
  (he : ∀ J, sx P (execOp (rho K J) o) [] = some (.enter f #[.slice A k0 c], []) := by intro J; kernel_rfl) (hd : o.dst = some d := by kernel_rfl) (hn : Nat.blt d n = true := by kernel_rfl) : Ge S0 w0 n K E (oW P o Q Kx) := fun a w S hK hE => by
 obtain ⟨hlt, rfl⟩ := srtG_some hy; unfold oW Oper.wp Oper.upon; rw [hK.eval, sx_run _ (he _) trivial, hd]; refine (inp (v := .tuple #[]) i A c k0 l (srtI l) hk (srtI_len l) (fun a => a.put (some d) (.tuple #[])) (fun g w _ hH hg _ _ => by have := H1 g 0 c l w hH hg hlt; rwa [srt_merge] at this) (fun w _ => H2 A c w) (fun a w S hK hE => h _ _ S (hK.put hn _) hE) hi a w S hK hE).mono ?_; rintro e' w' ⟨rfl, hx⟩; exact hx
theorem cpt {f : FuncId} (i d : Nat) (A : Option Addr) (c k0 : Nat) (l : List Int) (hk : k0 = l.length)
  (H1 : ∀ (blk off cap : Nat) (zs : List Int) (w : World), Holds (Value.int .i64) w blk off zs.toArray → zs.length ≤ 9223372036854775807 → zs.length ≤ cap → Calls P f #[.slice (some ⟨blk, off, none⟩) zs.length cap] w fun e w' => e = .returned (.slice (some ⟨blk, off, none⟩) (Lib.compact zs).length cap) ∧ ∃ q, w' = putRow (Value.int .i64) (Sort.ahead w q) blk off (Lib.compact zs ++ List.replicate (zs.length - (Lib.compact zs).length) 0).toArray)
  (H2 : ∀ (p : Option Addr) (cap : Nat) (w : World), Calls P f #[.slice p 0 cap] w fun e w' => e = .returned (.slice p 0 cap) ∧ w' = w)
  (hle : (Lib.compact l).length ≤ l.length)
  (h : ∀ r : List Int, r.length = k0 → Ge S0 w0 n ((d, .slice A (Lib.compact l).length c) :: K) (setz E i (.own e 1 (.slice A k0 c) k0 (r.flatMap c_i64))) Kx) (hi : ownT E i = some (e, 1, .slice A k0 c, k0, l.flatMap c_i64) := by kernel_rfl)
  (he : ∀ J, sx P (execOp (rho K J) o) [] = some (.enter f #[.slice A k0 c], []) := by intro J; kernel_rfl) (hd : o.dst = some d := by kernel_rfl) (hn : Nat.blt d n = true := by kernel_rfl) : Ge S0 w0 n K E (oW P o Q Kx) := fun a w S hK hE => by
 have hr : (Lib.compact l ++ List.replicate (l.length - (Lib.compact l).length) 0).length = l.length := by rw [List.length_append, List.length_replicate]; omega
 unfold oW Oper.wp Oper.upon; rw [hK.eval, sx_run _ (he _) trivial, hd]; refine (inp (v := .slice A (Lib.compact l).length c) i A c k0 l _ hk hr (fun a => a.put (some d) (.slice A (Lib.compact l).length c)) (fun g w hg hH _ hc hm => (H1 g 0 c l w hH (by unfold maxLen at hm; omega) hc).mono ?_) (fun w h0 => ?_) (fun a w S hK hE => h _ (hr.trans hk.symm) _ _ S (hK.put hn _) hE) hi a w S hK hE).mono ?_
 ·rintro e' w' ⟨rfl, q, rfl⟩; subst hg; exact ⟨rfl, q, #[], (grow_empty _).symm⟩
 ·subst h0; exact H2 A c w
 ·rintro e' w' ⟨rfl, hx⟩; exact hx
theorem cow {f : FuncId} {args : List Value} {m k : Nat} {xs : List Value} (d : Nat) (hc : ∀ w S, Ez S0 w0 w S E → Calls P f args.toArray w fun r w' => ∃ A' c', r = .returned (.slice A' k c') ∧ Below w.heap.size w w' ∧ w'.ownsRow w.heap.size e m (.slice A' k c') k xs)
  (h : ∀ A' c', Ge S0 w0 n ((d, .slice A' k c') :: K) (.own e m (.slice A' k c') k xs :: E) Kx)
  (he : ∀ J, sx P (execOp (rho K J) o) [] = some (.enter f args.toArray, []) := by intro J; kernel_rfl) (hd : o.dst = some d := by kernel_rfl) (hn : Nat.blt d n = true := by kernel_rfl) : Ge S0 w0 n K E (oW P o Q Kx) := fun a w S hK hE => by
 unfold oW Oper.wp Oper.upon; rw [hK.eval, sx_run _ (he _) trivial, hd]; refine (hc w S hE).mono fun r w' hr => ?_
 obtain ⟨A', c', rfl, hb, hown⟩ := hr; have h' := Es.same hE hb; refine h A' c' _ w' S (hK.put hn _) ⟨h'.b, h'.e, h'.lt, fun y hy => ?_, List.pairwise_cons.2 ⟨fun y hy g hg hgy => ?_, h'.p⟩⟩
 ·rcases List.mem_cons.1 hy with rfl | hy
  ·refine ⟨⟨w.heap.size, hE.b.size, hown⟩, fun g hg hs => ?_⟩; have := (own_lt hown hg).1; have := hE.lt g hs; omega
  ·exact h'.k y hy
 ·have h1 := (own_lt hown hg).1; have h2 := ((Es.k hE y hy).lt hgy).2; omega
end
section
variable {S0 S : Nat → Prop} {w0 w w' : World} {n : Nat} {K K' : List (Nat × Value)} {E E' : List Iz} {X : Act → World → Prop} {P : Program} {ops : Array Oper} {Q : Exit → Act → World → Prop} {o : Oper} {L : List Oper} {v v' : Value} {p q : Pr} {Kx : Act → World → Prop}
variable {T e : TypeId} {m bytes : Nat} {z0 : Value} {α β : Type} {A : Option Addr} {c : Nat} {f : α → List Value} {ok : α → Pr} {l : List α}
theorem fy {p : α → β} (ej : Fd E (Each ok l)) {z : Int} {y : β} (hy : ixI (l.map p) z = some y)
  (h : ∀ x, p x = y → (0 ≤ z ∧ z < ((l.length : Nat) : Int)) → l[z.toNat]? = some x → Ge S0 w0 n K (.dat (ok x) :: E) X) : Ge S0 w0 n K E X := by
 obtain ⟨x, hx, e⟩ := ixI_map hy; obtain ⟨j, rfl, hj⟩ := ixI_some hx; have hlt := (List.getElem?_eq_some_iff.1 hj).1; refine fm (ok x) (fun _ _ _ _ hE S' W h1 h2 => ej _ _ _ _ hE S' W h1 h2 x (List.mem_of_getElem? hj)) (h x e ⟨by omega, by omega⟩ ?_); rw [Int.toNat_natCast]; exact hj
theorem stI_mapx {p : α → β} {l : List α} {i : Int} {x : α} {xo : β} {y : List β} (e : p x = xo) (h : stI (l.map p) i xo = some y) : (0 ≤ i ∧ i < (l.length : Int)) ∧ (l.set i.toNat x).map p = y := by
 subst e; obtain ⟨h1, h2⟩ := stI_some h; rw [List.length_map] at h1; exact ⟨h1, by rw [h2, List.map_set]⟩
theorem row_split {u : α} (hm : ∀ x, (f x).length = m) {z : Nat} {cs : List Value} (hz : z < l.length) (hu : l[z]? = some u) (hc : cs.take (l.length * m) = l.flatMap f) : cs = cs.take (z * m) ++ f u ++ cs.drop (z * m + m) := by
 have e1 : l.set z u = l := by
  obtain ⟨h1, h2⟩ := List.getElem?_eq_some_iff.1 hu; rw [← h2, List.set_getElem_self]
 have e2 := flat_set (f := f) hm hz (x := u); rw [e1] at e2; have hzm : z * m + m ≤ l.length * m := by rw [← Nat.succ_mul]; exact Nat.mul_le_mul_right m hz
 have hfl : (l.flatMap f).length = l.length * m := fl_len f m hm l; have e3 : cs.take (z * m) = (l.flatMap f).take (z * m) := by rw [← hc, List.take_take, Nat.min_eq_left (by omega)]
 have e4 : cs.drop (z * m + m) = (l.flatMap f).drop (z * m + m) ++ cs.drop (l.length * m) := by
  conv => lhs; rw [← List.take_append_drop (l.length * m) cs, hc]
  rw [List.drop_append_of_le_length (by omega)]
 rw [e3, e4, ← List.append_assoc, ← e2, ← hc, List.take_append_drop]
theorem part_set {u x : α} (hm : ∀ x, (f x).length = m) {j0 : Nat} {vals : List Value} {z : Nat} {cs : List Value} (hz : z < l.length) (hu : l[z]? = some u) (hj : j0 + vals.length ≤ m) (hx : f x = (f u).take j0 ++ vals ++ (f u).drop (j0 + vals.length))
  (hc : cs.take (l.length * m) = l.flatMap f) (hcl : l.length * m ≤ cs.length) : (setsL cs (enum (z * m + j0) vals)).take (l.length * m) = (l.set z x).flatMap f := by
 have hzm : z * m + m ≤ l.length * m := by rw [← Nat.succ_mul]; exact Nat.mul_le_mul_right m hz
 have hfl : (l.flatMap f).length = l.length * m := fl_len f m hm l; have hs := row_split hm hz hu hc; have hp : (cs.take (z * m)).length = z * m := by rw [List.length_take]; omega
 have hfu := hm u; have e1 : cs.take (z * m + j0) = cs.take (z * m) ++ (f u).take j0 := by
  conv => lhs; rw [hs]
  rw [List.append_assoc, List.take_append, List.take_of_length_le (by omega), hp, show z * m + j0 - z * m = j0 by omega, List.take_append_of_le_length (by omega)]
 have e2 : cs.drop (z * m + j0 + vals.length) = (f u).drop (j0 + vals.length) ++ cs.drop (z * m + m) := by
  conv => lhs; rw [hs]
  rw [List.append_assoc, List.drop_append, List.drop_of_length_le (by omega), List.nil_append, hp, show z * m + j0 + vals.length - z * m = j0 + vals.length by omega, List.drop_append_of_le_length (by omega)]
 rw [setsL_enum (by omega), e1, e2, flat_set hm hz, hx, ← hc, List.take_take, Nat.min_eq_left (by omega)]; have hd : ((cs.take (l.length * m)).drop (z * m + m)) = (cs.drop (z * m + m)).take (l.length * m - (z * m + m)) := by rw [List.drop_take]
 rw [hd]; have hlen : (cs.take (z * m) ++ (f u).take j0 ++ vals ++ (f u).drop (j0 + vals.length)).length = z * m + m := by
  simp only [List.length_append, hp, List.length_take, List.length_drop, hfu]; omega
 rw [show cs.take (z * m) ++ (f u).take j0 ++ vals ++ ((f u).drop (j0 + vals.length) ++ cs.drop (z * m + m)) = (cs.take (z * m) ++ (f u).take j0 ++ vals ++ (f u).drop (j0 + vals.length)) ++ cs.drop (z * m + m) by simp, List.take_append, List.take_of_length_le (by omega), hlen]
 simp
theorem swp {p : α → β} (i : Nat) (e : TypeId) (m g k0 c : Nat) (f : α → List Value) (l : List α) (u x : α) (j0 : Nat) (vals : List Value) (hk : k0 = l.length) {A : Option Addr} {z : Int} {xo : β} {y : List β} (hA : A = some ⟨g, 0, none⟩) (hu : l[z.toNat]? = some u) (hx : p x = xo) (hy : stI (l.map p) z xo = some y) (ej : Fd E (Each ok l)) (ex : Fd E (ok x))
  (h : ∀ r, r.map p = y → k0 = r.length → Ge S0 w0 n K (setz (.dat (Each ok r) :: E) (i + 1) (.own e m (.slice A k0 c) k0 (r.flatMap f))) Kx) (hi : ownT E i = some (e, m, .slice A k0 c, k0, l.flatMap f) := by kernel_rfl)
  (he : ∀ J, ss P (execOp (rho K J) o) = some (.skip, (enum (z.toNat * m + j0) vals).map fun p => (⟨g, p.1, none⟩, p.2)) := by intro J; kernel_rfl) (hd : o.dst = none := by kernel_rfl) (hf : f x = (f u).take j0 ++ vals ++ (f u).drop (j0 + vals.length) := by rfl) (hj : Nat.ble (j0 + vals.length) m = true := by kernel_rfl) (hm : ∀ x, (f x).length = m := by intro _; rfl) : Ge S0 w0 n K E (oW P o Q Kx) := by
 obtain ⟨hz, hr⟩ := stI_mapx hx hy; have hj' := Nat.le_of_ble_eq_true hj; refine fm (Each ok (l.set z.toNat x)) (fun _ _ _ _ hE S' W h1 h2 y hy => ?_) fun a w S hK hE => ?_
 ·rcases List.mem_or_eq_of_mem_set hy with hy | rfl
  ·exact ej _ _ _ _ hE S' W h1 h2 y hy
  ·exact ex _ _ _ _ hE S' W h1 h2
 subst hk; have h1 : ((Iz.dat (Each ok (l.set z.toNat x)) :: E).map Iz.ik)[i + 1]? = some (Iz.own e m (.slice A l.length c) l.length (l.flatMap f)).ik := hE.at (by show E[i]? = _; exact own_at' hi)
 obtain ⟨⟨b, hb, hro⟩, hns⟩ := Es.k hE _ (List.mem_of_getElem? h1); have hj : z.toNat < l.length := by omega
 rcases hro.2 with ⟨_, h0⟩ | ⟨g', cap, cur, hv, hbg, hh, hle, hcap, hsz, htk⟩
 ·omega
 ·injection hv with e1 e2 e3
  subst hA
  injection e1 with e1
  injection e1 with e1
  subst e1 e3; simp only at *; have hjm : z.toNat * m + m ≤ l.length * m := by rw [← Nat.succ_mul]; exact Nat.mul_le_mul_right m hj
  have hcm : l.length * m ≤ c * m := Nat.mul_le_mul_right m hle; have hin : ltAll cur.size (enum (z.toNat * m + j0) vals) = true := ltAll_enum (by rw [hsz]; omega); have hblk : Blk w g e cur := hh; have hrun := ss_run (P := P) _ hblk (he (fun t => a.tmps.getD t undef)) (ltAll_all hin); have ho := stsW_other (g := g) (enum (z.toNat * m + j0) vals) (w := w); unfold oW Oper.wp Oper.upon; rw [hK.eval, hrun.1, hd]; refine h _ hr (by rw [List.length_set]) _ _ S hK ?_; unfold Ez; rw [setz_map]; have hnew : Blk (stsW w ((enum (z.toNat * m + j0) vals).map fun p => (⟨g, p.1, none⟩, p.2))) g e ⟨setsL cur.toList (enum (z.toNat * m + j0) vals)⟩ := by
   have := hrun.2
   rwa [show sets cur (enum (z.toNat * m + j0) vals) = ⟨setsL cur.toList (enum (z.toNat * m + j0) vals)⟩ from sets_lit rfl] at this
  refine Es.put hE (i + 1) h1 (hE.b.trans (ho.2.2.mono (Nat.le_trans hb hbg))) (fun _ h => h) (fun _ h => .inl h) (Nat.le_of_eq ho.1.symm) ⟨⟨b, hb, ?_⟩, hns⟩ (fun _ h => .inl h) (fun k _ hne => ho.2.1 k (fun e => hne (by simp [Iz.ik, Ik.at, Value.ownBlock, e]))); refine ⟨by rw [fl_len f m hm, List.length_set], .inr ⟨g, c, _, rfl, hbg, hnew, hle, hcap, ?_, ?_⟩⟩
  ·show (setsL cur.toList _).length = _
   rw [setsL_len, Array.length_toList, hsz]
  ·show (setsL cur.toList _).take _ = _
   exact part_set (l := l) (cs := cur.toList) hm hj hu hj' hf htk (by have h9 : cur.toList.length = c * m := (Array.length_toList (xs := cur)).trans hsz; rw [h9]; exact hcm)
end
end Go.Proofs.YtkchfmhgboiimaaGreat
namespace Go.Proofs.YtkchfmhgboiimaaGreat
def putsS : List Ver → List Ver → List Ver × Int
 | l, [] => (l, 0)
 | l, v :: vs => if (putS l v).2 = 0 then putsS (putS l v).1 vs else ([], (putS l v).2)
structure Ins (vs : List Ver) : Prop where
 wf : ∀ v ∈ vs, wfB v = true
 up : vs.Pairwise (fun a b => a.key = b.key → a.ts < b.ts)
def stepV (k t : Int) (a v : Ver) : Ver := if v.key = k ∧ v.ts ≤ t then v else a
theorem atFold_put {l : List Ver} {v : Ver} (h : Sto l) (hw : wfB v = true) (hn : ∀ x ∈ l, x.key = v.key → x.ts < v.ts) (k t : Int) : atFold (putL l v) k t = stepV k t (atFold l k t) v := by
 have h1 : newestR l v.key < v.ts := by
  rcases newest_in (l := l) (k := v.key) with e | ⟨x, hx, hk, ht⟩
  ·simp only [wfB, Bool.and_eq_true, decide_eq_true_eq] at hw; omega
  ·have := hn x hx hk; omega
 unfold stepV
 split
 ·next hc => exact atFold_hit h h1 hc.1 hc.2
 ·next hc => exact atFold_miss h h1 hc
theorem puts_ok : ∀ {vs l : List Ver}, Sto l → Ins vs → (∀ x ∈ l, ∀ v ∈ vs, x.key = v.key → x.ts < v.ts) → l.length + vs.length ≤ 4000 →
  ∃ m, putsS l vs = (m, 0) ∧ Sto m ∧ m.Perm (l ++ vs) ∧ ∀ k t, atFold m k t = vs.foldl (stepV k t) (atFold l k t)
 | [], l, h, _, _, _ => ⟨l, rfl, h, by simp, fun _ _ => rfl⟩
 | v :: vs, l, h, hi, hn, hl => by
  simp only [List.length_cons] at hl; have hw := hi.wf v List.mem_cons_self; obtain ⟨e1, h1⟩ := put_eq h hw (by omega) fun x hx hk => hn x hx v List.mem_cons_self hk
  have hu := List.pairwise_cons.1 hi.up; have hp := putL_perm l v; have hv : ∀ x ∈ putL l v, ∀ u ∈ vs, x.key = u.key → x.ts < u.ts := fun x hx u hu' hk => by
   rcases List.mem_cons.1 (hp.mem_iff.1 hx) with rfl | hx
   ·exact hu.1 u hu' hk
   ·exact hn x hx u (List.mem_cons_of_mem _ hu') hk
  obtain ⟨m, e2, h2, h3, h4⟩ := puts_ok h1 ⟨fun u hu' => hi.wf u (List.mem_cons_of_mem _ hu'), hu.2⟩ hv (by have := hp.length_eq; simp only [List.length_cons] at this; omega); refine ⟨m, ?_, h2, ?_, fun k t => ?_⟩
  ·unfold putsS; rw [e1]; exact e2
  ·refine h3.trans ((hp.append_right vs).trans ?_)
   simpa using (List.perm_middle (a := v) (l₁ := l) (l₂ := vs)).symm
  ·rw [h4, List.foldl_cons, atFold_put h hw fun x hx hk => hn x hx v List.mem_cons_self hk]
theorem puts_app : ∀ {a b l m : List Ver}, putsS l (a ++ b) = (m, 0) → ∃ m', putsS l a = (m', 0) ∧ putsS m' b = (m, 0)
 | [], _, l, _, h => ⟨l, rfl, h⟩
 | v :: a, b, l, m, h => by
  have h' : (if (putS l v).2 = 0 then putsS (putS l v).1 (a ++ b) else ([], (putS l v).2)) = (m, 0) := h
  by_cases hc : (putS l v).2 = 0
  ·rw [if_pos hc] at h'; obtain ⟨m', h1, h2⟩ := puts_app h'; refine ⟨m', ?_, h2⟩
   show (if (putS l v).2 = 0 then putsS (putS l v).1 a else ([], (putS l v).2)) = (m', 0)
   rw [if_pos hc]; exact h1
  ·rw [if_neg hc] at h'
   injection h' with _ h2
   exact absurd h2 hc
theorem sto_nil : Sto [] := ⟨fun _ h => absurd h List.not_mem_nil, .nil, by simp⟩
theorem puts_nil {vs : List Ver} (hi : Ins vs) (hl : vs.length ≤ 4000) :
  ∃ m, putsS [] vs = (m, 0) ∧ Sto m ∧ m.Perm vs ∧ ∀ k t, atFold m k t = vs.foldl (stepV k t) Ver.zero := by
 obtain ⟨m, h1, h2, h3, h4⟩ := puts_ok sto_nil hi (fun _ h => absurd h List.not_mem_nil) (by simpa using hl); exact ⟨m, h1, h2, by simpa using h3, h4⟩
theorem cnt_sorted {s : List Int} (h : s.Pairwise (· ≤ ·)) {k : Nat} (h1 : 1 ≤ k) (h2 : k ≤ s.length) (m : Int) : k ≤ s.countP (fun x => decide (m ≤ x)) ↔ m ≤ s[s.length - k]'(by omega) := by
 have hp := List.pairwise_iff_getElem.1 h; constructor
 ·intro hc; refine Classical.byContradiction fun hn => ?_
  have e : s.countP (fun x => decide (m ≤ x)) = (s.take (s.length - k + 1)).countP (fun x => decide (m ≤ x)) + (s.drop (s.length - k + 1)).countP (fun x => decide (m ≤ x)) := by
   rw [← List.countP_append, List.take_append_drop]
  have h0 : (s.take (s.length - k + 1)).countP (fun x => decide (m ≤ x)) = 0 := List.countP_eq_zero.2 fun x hx => by
   obtain ⟨j, hj, rfl⟩ := List.getElem_of_mem hx; simp only [List.length_take] at hj; rw [List.getElem_take]; rcases Nat.eq_or_lt_of_le (show j ≤ s.length - k by omega) with e | hlt
   ·subst e; simpa using hn
   ·have := hp j (s.length - k) (by omega) (by omega) hlt; simp only [decide_eq_true_eq]; omega
  have h3 := List.countP_le_length (p := fun x => decide (m ≤ x)) (l := s.drop (s.length - k + 1)); rw [List.length_drop] at h3; omega
 ·intro hm; have e : s.countP (fun x => decide (m ≤ x)) = (s.take (s.length - k)).countP (fun x => decide (m ≤ x)) + (s.drop (s.length - k)).countP (fun x => decide (m ≤ x)) := by
   rw [← List.countP_append, List.take_append_drop]
  have h3 : (s.drop (s.length - k)).countP (fun x => decide (m ≤ x)) = (s.drop (s.length - k)).length := List.countP_eq_length.2 fun x hx => by
   obtain ⟨j, hj, rfl⟩ := List.getElem_of_mem hx; simp only [List.length_drop] at hj; rw [List.getElem_drop]; rcases Nat.eq_zero_or_pos j with e | hlt
   ·subst e; simpa using hm
   ·have := hp (s.length - k) (s.length - k + j) (by omega) (by omega) (by omega); simp only [decide_eq_true_eq]; omega
  rw [List.length_drop] at h3; omega
theorem srtI_cnt (l : List Int) {k : Nat} (h1 : 1 ≤ k) (h2 : k ≤ l.length) (m : Int) : k ≤ l.countP (fun x => decide (m ≤ x)) ↔ m ≤ (srtI l)[(srtI l).length - k]'(by rw [srtI_len]; omega) := by
 rw [← (srtI_perm l).countP_eq]; exact cnt_sorted (srtI_up l) h1 (by rw [srtI_len]; omega) m
end Go.Proofs.YtkchfmhgboiimaaGreat
namespace Go.Proofs.YtkchfmhgboiimaaGreat
section
variable {σ ρ α : Type}
theorem ifB_t (x y : Option α) : ifB true x y = x := rfl
theorem ifB_f (x y : Option α) : ifB false x y = y := rfl
theorem ob_some (a : σ) (k : σ → Option α) : Option.bind (some a) k = k a := rfl
theorem ixI_nat {l : List α} {k : Nat} : ixI l (k : Int) = l[k]? := by unfold ixI; rw [if_pos (by omega), Int.toNat_natCast]
theorem ixI_get {l : List α} {k : Nat} (h : k < l.length) : ixI l (k : Int) = some l[k] := by rw [ixI_nat, List.getElem?_eq_getElem h]
theorem apG_ok {B : Nat} {a b : List α} (h : (a.length + b.length) * B ≤ 140737488355328) : apG B a b = some (a ++ b) := if_pos h
theorem slI_ok {l : List α} {p q : Nat} (h : p ≤ q) (hq : q ≤ l.length) : slI l (p : Int) (q : Int) = some ((l.take q).drop p) := by unfold slI; rw [if_pos (by omega)]; simp
theorem w64_id {n : Int} (h : -9223372036854775808 ≤ n) (h' : n ≤ 9223372036854775807) : IntKind.i64.wrap n = n := by rw [IntKind.wrap_i64]; omega
theorem iter_seq {f : σ → Option (σ ⊕ ρ)} (s : Nat → σ) (n : Nat) (r : ρ) (h : ∀ k, k < n → f (s k) = some (.inl (s (k + 1)))) (he : f (s n) = some (.inr r)) {F : Nat} (hF : n < F) : iter f F (s 0) = some r := by
 have key : ∀ (m k F : Nat), m = n - k → k ≤ n → n - k < F → iter f F (s k) = some r := by
  intro m
  induction m with
  | zero =>
   intro k F hm hk hF; obtain ⟨F', rfl⟩ : ∃ F', F = F' + 1 := ⟨F - 1, by omega⟩; have : k = n := by omega
   subst this; unfold iter; rw [he]
  | succ m ih =>
   intro k F hm hk hF; obtain ⟨F', rfl⟩ : ∃ F', F = F' + 1 := ⟨F - 1, by omega⟩; unfold iter; rw [h k (by omega)]; exact ih (k + 1) F' (by omega) (by omega) (by omega)
 exact key n 0 F (by omega) (Nat.zero_le _) (by omega)
end
end Go.Proofs.YtkchfmhgboiimaaGreat
namespace Go.Proofs.YtkchfmhgboiimaaGreat
section
variable {σ ρ α β : Type}
theorem iter_from {f : σ → Option (σ ⊕ ρ)} (l : List α) (e : β → Nat → σ) (g : β → Nat → α → β ⊕ ρ) (fin : β → ρ) (I : Nat → β → Prop) (run : List α → Nat → β → ρ)
  (r0 : ∀ k b, run [] k b = fin b) (r1 : ∀ x xs k b, run (x :: xs) k b = match g b k x with | .inl b' => run xs (k + 1) b' | .inr r => r)
  (hn : ∀ b, I l.length b → f (e b l.length) = some (.inr (fin b)))
  (hk : ∀ b k (h : k < l.length), I k b → f (e b k) = some (match g b k l[k] with | .inl b' => .inl (e b' (k + 1)) | .inr r => .inr r) ∧ ∀ b', g b k l[k] = .inl b' → I (k + 1) b') {F : Nat} (hF : l.length < F) (b : β) (hb : I 0 b) :
  iter f F (e b 0) = some (run l 0 b) := by
 have key : ∀ (m k F : Nat) (b : β), k + m = l.length → m < F → I k b → iter f F (e b k) = some (run (l.drop k) k b) := by
  intro m
  induction m with
  | zero =>
   intro k F b hm hF hb; obtain ⟨F', rfl⟩ : ∃ F', F = F' + 1 := ⟨F - 1, by omega⟩; obtain rfl : k = l.length := by omega
   unfold iter; rw [hn b hb, List.drop_length, r0]
  | succ m ih =>
   intro k F b hm hF hb; obtain ⟨F', rfl⟩ : ∃ F', F = F' + 1 := ⟨F - 1, by omega⟩; have hlt : k < l.length := by omega
   obtain ⟨h1, h2⟩ := hk b k hlt hb; unfold iter; rw [h1, List.drop_eq_getElem_cons hlt, r1]; cases hg : g b k l[k] with
   | inl b' => exact ih (k + 1) F' b' (by omega) (by omega) (h2 b' hg)
   | inr r => rfl
 have := key l.length 0 F b (by omega) hF hb
 rwa [List.drop_zero] at this
theorem iter_allL {f : Int → Option (Int ⊕ ρ)} (l : List α) (p : α → Bool) (a b : ρ) (hn : f (l.length : Int) = some (.inr a)) (hk : ∀ k (h : k < l.length), f (k : Int) = some (if p l[k] = true then .inl ((k : Int) + 1) else .inr b)) {F : Nat} (hF : l.length < F) :
  iter f F 0 = some (if l.all p = true then a else b) := by
 refine iter_from (β := Unit) l (fun _ k => (k : Int)) (fun _ _ x => if p x = true then .inl () else .inr b) (fun _ => a) (fun _ _ => True) (fun l _ _ => if l.all p = true then a else b) (fun _ _ => rfl) (fun x xs k _ => ?_) (fun _ _ => hn) (fun _ k h _ => ⟨?_, fun _ _ => trivial⟩) hF () trivial
 ·rw [List.all_cons]; cases p x <;> simp
 ·rw [hk k h]; cases p l[k] <;> rfl
theorem iter_fdL {f : Int → Option (Int ⊕ ρ)} (l : List α) (p : α → Bool) (a : ρ) (b : Nat → ρ) (hn : f (l.length : Int) = some (.inr a)) (hk : ∀ k (h : k < l.length), f (k : Int) = some (if p l[k] = true then .inr (b k) else .inl ((k : Int) + 1))) {F : Nat} (hF : l.length < F) :
  iter f F 0 = some (match l.findIdx? p with | none => a | some k => b k) := by
 have h := iter_from (f := f) (β := Unit) l (fun _ k => (k : Int)) (fun _ k x => if p x = true then .inr (b k) else .inl ()) (fun _ => a) (fun _ _ => True) (fun l k _ => match l.findIdx? p with | none => a | some j => b (k + j)) (fun _ _ => rfl) (fun x xs k _ => ?_) (fun _ _ => hn) (fun _ k h _ => ⟨?_, fun _ _ => trivial⟩) hF () trivial
 ·simp only [Nat.zero_add] at h; exact h
 ·rw [List.findIdx?_cons]; cases p x
  ·simp only [Bool.false_eq_true, if_false]; cases xs.findIdx? p with
   | none => rfl
   | some j => simp only [Option.map_some]; congr 1; omega
  ·simp
 ·rw [hk k h]; cases p l[k] <;> rfl
theorem iter_fdE {f : σ → Option (σ ⊕ ρ)} (e : Int → σ) (l : List α) (p : α → Bool) (a : ρ) (b : Nat → ρ) (hn : f (e (l.length : Int)) = some (.inr a)) (hk : ∀ k (h : k < l.length), f (e (k : Int)) = some (if p l[k] = true then .inr (b k) else .inl (e ((k : Int) + 1)))) {F : Nat} (hF : l.length < F) :
  iter f F (e 0) = some (match l.findIdx? p with | none => a | some k => b k) := by
 have h := iter_from (f := f) (β := Unit) l (fun _ k => e (k : Int)) (fun _ k x => if p x = true then .inr (b k) else .inl ()) (fun _ => a) (fun _ _ => True) (fun l k _ => match l.findIdx? p with | none => a | some j => b (k + j)) (fun _ _ => rfl) (fun x xs k _ => ?_) (fun _ _ => hn) (fun _ k h _ => ⟨?_, fun _ _ => trivial⟩) hF () trivial
 ·simp only [Nat.zero_add] at h; exact h
 ·rw [List.findIdx?_cons]; cases p x
  ·simp only [Bool.false_eq_true, if_false]; cases xs.findIdx? p with
   | none => rfl
   | some j => simp only [Option.map_some]; congr 1; omega
  ·simp
 ·rw [hk k h]; cases p l[k] <;> rfl
def risF : Int → List Int → Bool
 | _, [] => true
 | a, k :: ks => decide (a < k) && risF k ks
theorem iter_rise {f : σ → Option (σ ⊕ ρ)} (e : Int → Int → σ) (l : List α) (key : α → Int) (a b : ρ) (hn : ∀ x, f (e x (l.length : Int)) = some (.inr a)) (hk : ∀ x k (h : k < l.length), f (e x (k : Int)) = some (if x < key l[k] then .inl (e (key l[k]) ((k : Int) + 1)) else .inr b)) {F : Nat} (hF : l.length < F) (x : Int) :
  iter f F (e x 0) = some (if risF x (l.map key) = true then a else b) := by
 refine iter_from (β := Int) l (fun x k => e x (k : Int)) (fun x _ y => if x < key y then .inl (key y) else .inr b) (fun _ => a) (fun _ _ => True) (fun l _ x => if risF x (l.map key) = true then a else b) (fun _ _ => rfl) (fun y xs k x => ?_) (fun x _ => hn x) (fun x k h _ => ⟨?_, fun _ _ => trivial⟩) hF x trivial
 ·rw [List.map_cons, risF]
  by_cases h : x < key y <;> simp [h]
 ·rw [hk x k h]
  split <;> simp [*]
theorem iter_fold {f : σ → Option (σ ⊕ ρ)} (e : β → Int → σ) (l : List α) (g : β → α → β) (fin : β → ρ) (I : Nat → β → Prop) (hn : ∀ b, I l.length b → f (e b (l.length : Int)) = some (.inr (fin b)))
  (hk : ∀ b k (h : k < l.length), I k b → f (e b (k : Int)) = some (.inl (e (g b l[k]) ((k : Int) + 1))) ∧ I (k + 1) (g b l[k])) {F : Nat} (hF : l.length < F) (b : β) (hb : I 0 b) :
  iter f F (e b 0) = some (fin (l.foldl g b)) := by
 refine iter_from l (fun b k => e b (k : Int)) (fun b _ x => .inl (g b x)) fin I (fun l _ b => fin (l.foldl g b)) (fun _ _ => rfl) (fun _ _ _ _ => rfl) hn (fun b k h hb => ⟨(hk b k h hb).1, fun b' h' => ?_⟩) hF b hb; cases h'; exact (hk b k h hb).2
end
theorem ltl {k n : Nat} (h : k < n) : decide ((k : Int) < (n : Int)) = true := decide_eq_true (by omega)
theorem ltn (n : Nat) : decide ((n : Int) < (n : Int)) = false := decide_eq_false (by omega)
theorem w64_1 {k n : Nat} (h : k < n) (hn : n ≤ 9223372036854775807) : IntKind.i64.wrap ((k : Int) + 1) = (k : Int) + 1 := by rw [IntKind.wrap_i64]; omega
theorem w64_p {k : Nat} (h : 0 < k) (hn : k ≤ 9223372036854775807) : IntKind.i64.wrap ((k : Int) - 1) = ((k - 1 : Nat) : Int) := by rw [IntKind.wrap_i64]; omega
end Go.Proofs.YtkchfmhgboiimaaGreat
namespace Go.Proofs.YtkchfmhgboiimaaGreat
theorem risF_iff : ∀ {l : List Int} {a : Int}, risF a l = true ↔ (a :: l).Pairwise (· < ·)
 | [], a => by simp [risF]
 | k :: ks, a => by
  unfold risF; rw [Bool.and_eq_true, decide_eq_true_eq, risF_iff, List.pairwise_cons (a := a)]; constructor
  ·rintro ⟨h1, h2⟩; refine ⟨fun x hx => ?_, h2⟩; rcases List.mem_cons.1 hx with rfl | hx
   ·exact h1
   ·exact Int.lt_trans h1 ((List.pairwise_cons.1 h2).1 x hx)
  ·rintro ⟨h1, h2⟩; exact ⟨h1 k List.mem_cons_self, h2⟩
theorem risF_take {l : List Int} {a : Int} (h : risF a l = true) (n : Nat) : risF a (l.take n) = true := by
 rw [risF_iff] at h ⊢; exact h.sublist (List.Sublist.cons_cons a (List.take_sublist n l))
def seenB (s : KSeen) : Bool := decide (s.Key ≤ 1000) && (decide (0 ≤ s.Ts) && decide (s.Ts ≤ 3000000000000000))
def writB (w : KWrite) : Bool := decide (w.Key ≤ 1000) && decide (0 ≤ w.Value) && decide (w.Value ≤ 1000000) && (!w.Gone || w.Value == 0)
def txS (t : KTx) : Bool :=
 decide (1 ≤ t.ID) && decide (t.ID ≤ 1000000) && decide (1 ≤ t.Ts) && decide (t.Ts ≤ 3000000000000000) && decide (t.Reads.length ≤ 8) && decide (t.Writes.length ≤ 8) &&
  t.Reads.all seenB && t.Writes.all writB && risF 0 (t.Reads.map (·.Key)) && risF 0 (t.Writes.map (·.Key))
def logS (l : List KTx) : Bool := l.all txS && risF 0 (l.map (·.Ts))
theorem logS_take {l : List KTx} (h : logS l = true) (n : Nat) : logS (l.take n) = true := by
 unfold logS at h ⊢; rw [Bool.and_eq_true] at h ⊢; refine ⟨List.all_eq_true.2 fun x hx => List.all_eq_true.1 h.1 x (List.mem_of_mem_take hx), ?_⟩; rw [List.map_take]; exact risF_take h.2 n
def lgS (l : List KCopy) : List KTx := l.foldl (fun m c => if m.length < c.Log.length then c.Log else m) []
theorem lg_fold : ∀ (l : List KCopy) (b : List KTx), b.length ≤ (l.foldl (fun m c => if m.length < c.Log.length then c.Log else m) b).length ∧ (∀ c ∈ l, c.Log.length ≤ (l.foldl (fun m c => if m.length < c.Log.length then c.Log else m) b).length) ∧
  (l.foldl (fun m c => if m.length < c.Log.length then c.Log else m) b = b ∨ ∃ c ∈ l, l.foldl (fun m c => if m.length < c.Log.length then c.Log else m) b = c.Log)
 | [], b => ⟨Nat.le_refl _, fun _ h => absurd h List.not_mem_nil, .inl rfl⟩
 | c :: l, b => by
  simp only [List.foldl_cons]; obtain ⟨h1, h2, h3⟩ := lg_fold l (if b.length < c.Log.length then c.Log else b); have hb : b.length ≤ (if b.length < c.Log.length then c.Log else b).length ∧ c.Log.length ≤ (if b.length < c.Log.length then c.Log else b).length := by split <;> constructor <;> omega
  refine ⟨Nat.le_trans hb.1 h1, fun x hx => ?_, ?_⟩
  ·rcases List.mem_cons.1 hx with rfl | hx
   ·exact Nat.le_trans hb.2 h1
   ·exact h2 x hx
  ·rcases h3 with h3 | ⟨x, hx, h3⟩
   ·rw [h3]
    split
    ·exact .inr ⟨c, List.mem_cons_self, rfl⟩
    ·exact .inl rfl
   ·exact .inr ⟨x, List.mem_cons_of_mem _ hx, h3⟩
theorem lg_ge {l : List KCopy} {c : KCopy} (h : c ∈ l) : c.Log.length ≤ (lgS l).length := (lg_fold l []).2.1 c h
theorem lg_mem {l : List KCopy} (h : l ≠ []) : ∃ c ∈ l, lgS l = c.Log := by
 rcases (lg_fold l []).2.2 with e | e
 ·cases l with
  | nil => exact absurd rfl h
  | cons c l =>
   refine ⟨c, List.mem_cons_self, ?_⟩; have := lg_ge (l := c :: l) (c := c) List.mem_cons_self; unfold lgS at this ⊢; rw [e] at this ⊢; simp only [List.length_nil, Nat.le_zero] at this; exact (List.eq_nil_of_length_eq_zero this).symm
 ·exact e
def validS (l : List KCopy) : Bool :=
 decide (1 ≤ l.length) && decide (l.length ≤ 7) && risF 0 (l.map (·.ID)) && l.all (fun c => decide (c.ID ≤ 64)) && logS (lgS l) && decide ((lgS l).length ≤ 2000) && l.all (fun c => decide (c.Log = (lgS l).take c.Log.length))
structure Cps (l : List KCopy) : Prop where
 one : 1 ≤ l.length
 few : l.length ≤ 7
 up : (l.map (·.ID)).Pairwise (· < ·)
 pos : ∀ c ∈ l, 1 ≤ c.ID ∧ c.ID ≤ 64
 log : logS (lgS l) = true
 len : (lgS l).length ≤ 2000
 pre : ∀ c ∈ l, c.Log = (lgS l).take c.Log.length
theorem cps_iff (l : List KCopy) : validS l = true ↔ Cps l := by
 unfold validS; simp only [Bool.and_eq_true, decide_eq_true_eq, List.all_eq_true, risF_iff, List.pairwise_cons, List.mem_map]; constructor
 ·rintro ⟨⟨⟨⟨⟨⟨h1, h2⟩, h3, h4⟩, h5⟩, h6⟩, h7⟩, h8⟩; exact ⟨h1, h2, h4, fun c hc => ⟨by have := h3 c.ID ⟨c, hc, rfl⟩; omega, h5 c hc⟩, h6, h7, h8⟩
 ·intro h; refine ⟨⟨⟨⟨⟨⟨h.one, h.few⟩, ?_, h.up⟩, fun c hc => (h.pos c hc).2⟩, h.log⟩, h.len⟩, h.pre⟩; rintro x ⟨c, hc, rfl⟩; have := (h.pos c hc).1; omega
theorem Cps.logc {l : List KCopy} (h : Cps l) {c : KCopy} (hc : c ∈ l) : logS c.Log = true := by
 rw [h.pre c hc]; exact logS_take h.log _
theorem Cps.lenc {l : List KCopy} (h : Cps l) {c : KCopy} (hc : c ∈ l) : c.Log.length ≤ 2000 := Nat.le_trans (lg_ge hc) h.len
theorem Cps.two {l : List KCopy} (h : Cps l) {c d : KCopy} (hc : c ∈ l) (hd : d ∈ l) (hl : c.Log.length ≤ d.Log.length) : c.Log = d.Log.take c.Log.length := by
 rw [h.pre d hd, List.take_take, Nat.min_eq_left hl, ← h.pre c hc]
theorem valid_ref (l : List KCopy) : validS l = (decide (1 ≤ l.length) && decide (l.length ≤ 7) && (risF 0 (l.map (·.ID)) && l.all (fun c => logS c.Log && decide (c.Log.length ≤ 2000) && decide (c.ID ≤ 64))) && l.all (fun c => decide (c.Log = (lgS l).take c.Log.length))) := by
 rw [Bool.eq_iff_iff, cps_iff]; simp only [Bool.and_eq_true, decide_eq_true_eq, List.all_eq_true, risF_iff, List.pairwise_cons, List.mem_map]; constructor
 ·intro h; refine ⟨⟨⟨h.one, h.few⟩, ⟨?_, h.up⟩, fun c hc => ⟨⟨h.logc hc, h.lenc hc⟩, (h.pos c hc).2⟩⟩, h.pre⟩; rintro x ⟨c, hc, rfl⟩; have := (h.pos c hc).1; omega
 ·rintro ⟨⟨⟨h1, h2⟩, ⟨h3, h4⟩, h5⟩, h6⟩; obtain ⟨c, hc, e⟩ := lg_mem (l := l) (fun e => by rw [e] at h1; simp at h1); exact ⟨h1, h2, h4, fun c hc => ⟨by have := h3 c.ID ⟨c, hc, rfl⟩; omega, (h5 c hc).2⟩, by rw [e]; exact (h5 c hc).1.1, by rw [e]; exact (h5 c hc).1.2, h6⟩
def shipL (l : List KCopy) (i k n : Nat) : List KCopy := match l[i]?, l[k]? with
 | some a, some b => if b.Log.length < a.Log.length then l.set k ⟨b.ID, a.Log.take (b.Log.length + n)⟩ else l
 | _, _ => l
theorem shipL_eq {l : List KCopy} {i k : Nat} (hi : i < l.length) (hk : k < l.length) (n : Nat) : shipL l i k n = if l[k].Log.length < l[i].Log.length then l.set k ⟨l[k].ID, l[i].Log.take (l[k].Log.length + n)⟩ else l := by
 unfold shipL; rw [List.getElem?_eq_getElem hi, List.getElem?_eq_getElem hk]
def safeN (ss : List Int) : Int := (srtI ss).getD (ss.length - (ss.length / 2 + 1)) 0
theorem safe_le {ss : List Int} (h : ss ≠ []) (m : Int) : ss.length / 2 + 1 ≤ ss.countP (fun x => decide (m ≤ x)) ↔ m ≤ safeN ss := by
 have hl : 0 < ss.length := List.length_pos_iff.2 h; have hk : ss.length / 2 + 1 ≤ ss.length := by omega
 rw [srtI_cnt ss (by omega) hk m]; unfold safeN; have hlt : ss.length - (ss.length / 2 + 1) < (srtI ss).length := by rw [srtI_len]; omega
 have e : (srtI ss).getD (ss.length - (ss.length / 2 + 1)) 0 = (srtI ss)[(srtI ss).length - (ss.length / 2 + 1)]'(by rw [srtI_len]; exact (srtI_len ss) ▸ hlt) := by
  rw [List.getD, List.getElem?_eq_getElem hlt]; simp only [srtI_len, Option.getD_some]
 rw [e]
theorem compact_iff (l : List Int) : (Lib.compact l).length = l.length ↔ ∀ j (h : j < l.length), 0 < j → l[j] ≠ l[j - 1] := by
 unfold Lib.compact Lib.compactUpTo; rw [List.length_map]; have e : l.length = (List.range l.length).length := by simp
 conv => lhs; rhs; rw [e]
 rw [List.length_filter_eq_length_iff]; constructor
 ·intro h j hj h0; have := h j (List.mem_range.2 hj); unfold Lib.keeps at this; simp only [decide_eq_true_eq] at this; rcases this with h1 | h1
  ·omega
  ·intro e2; apply h1; rw [getElem!_pos l.toArray j (by simpa using hj), getElem!_pos l.toArray (j - 1) (by simp; omega)]
   simpa using e2
 ·intro h j hj; have hj' := List.mem_range.1 hj; unfold Lib.keeps; simp only [decide_eq_true_eq]; rcases Nat.eq_zero_or_pos j with h0 | h0
  ·exact .inl h0
  ·refine .inr ?_; rw [getElem!_pos l.toArray j (by simpa using hj'), getElem!_pos l.toArray (j - 1) (by simp; omega)]
   simpa using h j hj' h0
theorem compact_nodup {l : List Int} (hs : l.Pairwise (· ≤ ·)) : (Lib.compact l).length = l.length ↔ l.Pairwise (· < ·) := by
 rw [compact_iff, List.pairwise_iff_getElem]; have hp := List.pairwise_iff_getElem.1 hs; constructor
 ·intro h i j hi hj hij; have h1 := h j hj (by omega); have h2 : l[i] ≤ l[j - 1] := by
   rcases Nat.eq_or_lt_of_le (show i ≤ j - 1 by omega) with e | hlt
   ·subst e; exact Int.le_refl _
   ·exact hp i (j - 1) hi (by omega) hlt
  have h3 := hp (j - 1) j (by omega) hj (by omega); omega
 ·intro h j hj h0; have := h (j - 1) j (by omega) hj (by omega); omega
theorem rise_nodup {l : List Int} (h : l.Pairwise (· < ·)) : l.Nodup := h.imp fun h => by omega
theorem srt_nodup (l : List Int) : (Lib.compact (srtI l)).length = l.length ↔ l.Nodup := by
 rw [← srtI_len l, compact_nodup (srtI_up l)]; constructor
 ·intro h; exact (srtI_perm l).nodup_iff.1 (rise_nodup h)
 ·intro h; have hn := (srtI_perm l).nodup_iff.2 h; have := (srtI_up l).and hn; exact this.imp fun h => by have := h.1; have := h.2; omega
def bestS : List KCopy → Option KCopy
 | [] => none
 | c :: l => some (l.foldl (fun b d => if b.Log.length < d.Log.length then d else b) c)
def leftS (l : List KCopy) (alive : List Int) : List KCopy := l.filter fun c => alive.contains c.ID
theorem sorted_eq {α : Type} {r : α → α → Prop} (hi : ∀ a, ¬r a a) (ht : ∀ a b c, r a b → r b c → r a c) : ∀ {l l' : List α}, l.Pairwise r → l'.Pairwise r → (∀ x, x ∈ l ↔ x ∈ l') → l = l'
 | [], [], _, _, _ => rfl
 | [], y :: l', _, _, h => absurd ((h y).2 List.mem_cons_self) List.not_mem_nil
 | x :: l, [], _, _, h => absurd ((h x).1 List.mem_cons_self) List.not_mem_nil
 | x :: l, y :: l', hl, hl', h => by
  have h1 := List.pairwise_cons.1 hl; have h2 := List.pairwise_cons.1 hl'; have e : x = y := by
   rcases List.mem_cons.1 ((h x).1 List.mem_cons_self) with e | hx
   ·exact e
   ·rcases List.mem_cons.1 ((h y).2 List.mem_cons_self) with e | hy
    ·exact e.symm
    ·exact absurd (ht _ _ _ (h1.1 y hy) (h2.1 x hx)) (hi _)
  subst e; refine congrArg (x :: ·) (sorted_eq hi ht h1.2 h2.2 fun z => ?_); constructor
  ·intro hz; rcases List.mem_cons.1 ((h z).1 (List.mem_cons_of_mem _ hz)) with e | hz'
   ·subst e; exact absurd (h1.1 z hz) (hi _)
   ·exact hz'
  ·intro hz; rcases List.mem_cons.1 ((h z).2 (List.mem_cons_of_mem _ hz)) with e | hz'
   ·subst e; exact absurd (h2.1 z hz) (hi _)
   ·exact hz'
theorem left_ids {l : List KCopy} (h : (l.map (·.ID)).Pairwise (· < ·)) {alive : List Int} (hn : alive.Nodup) (hm : ∀ n ∈ alive, n ∈ l.map (·.ID)) : srtI alive = (leftS l alive).map (·.ID) := by
 have hu : (srtI alive).Pairwise (· < ·) := by
  have hn := (srtI_perm alive).nodup_iff.2 hn; have := (srtI_up alive).and hn; exact this.imp fun h => by have := h.1; have := h.2; omega
 refine sorted_eq (r := fun a b : Int => a < b) (fun a => Int.lt_irrefl a) (fun a b c => Int.lt_trans) hu ?_ fun x => ?_
 ·rw [List.pairwise_map] at h ⊢; exact h.sublist List.filter_sublist
 ·rw [(srtI_perm alive).mem_iff]; unfold leftS; constructor
  ·intro hx; obtain ⟨c, hc, rfl⟩ := List.mem_map.1 (hm x hx); exact List.mem_map.2 ⟨c, List.mem_filter.2 ⟨hc, List.contains_iff_mem.2 hx⟩, rfl⟩
  ·intro hx; obtain ⟨c, hc, rfl⟩ := List.mem_map.1 hx; exact List.contains_iff_mem.1 (List.mem_filter.1 hc).2
def sizesS (l : List KCopy) : List Int := l.map fun c => ((c.Log.length : Nat) : Int)
def fnd (l : List KCopy) (id : Int) : Option Nat := l.findIdx? fun c => c.ID == id
theorem fnd_at {l : List KCopy} (h : (l.map (·.ID)).Pairwise (· < ·)) {i : Nat} (hi : i < l.length) : fnd l l[i].ID = some i := by
 unfold fnd; rw [List.findIdx?_eq_some_iff_getElem]; refine ⟨hi, by simp, fun j hj => ?_⟩; have := List.pairwise_iff_getElem.1 h j i (by simp; omega) (by simpa using hi) hj; simp only [List.getElem_map] at this; simp only [beq_iff_eq]; omega
theorem fnd_some {l : List KCopy} {id : Int} {i : Nat} (h : fnd l id = some i) : ∃ hi : i < l.length, l[i].ID = id := by
 unfold fnd at h; rw [List.findIdx?_eq_some_iff_getElem] at h; obtain ⟨hi, h1, _⟩ := h; exact ⟨hi, by simpa using h1⟩
end Go.Proofs.YtkchfmhgboiimaaGreat
namespace Go.Proofs.YtkchfmhgboiimaaGreat
open Go.RowKit
def RetVF (w0 : World) (r : List Ver × Int) (e : Ending) (w' : World) : Prop :=
 ∃ A c, e = .returned (.tuple #[.slice A r.1.length c, .int .i64 r.2]) ∧ r.1.length ≤ c ∧ c ≤ maxLen ∧ VS w' A r.1 ∧ (∀ a, A = some a → w0.heap.size ≤ a.block) ∧ Below w0.heap.size w0 w'
theorem RetVF.none_ {w0 w' : World} {x : Int} (hb : Below w0.heap.size w0 w') : RetVF w0 ([], x) (.returned (.tuple #[.slice none 0 0, .int .i64 x])) w' :=
 ⟨none, 0, rfl, Nat.le_refl _, Nat.zero_le _, Rd.nil _ _, fun _ h => (by cases h), hb⟩
set_option maxHeartbeats 1000000 in
theorem put_fr (A : Option Addr) (c : Nat) (l : List Ver) (v : Ver) (w : World) (hn : l.length ≤ 9223372036854775807) (h : VS w A l) :
  Calls Tryz.prog 57 #[.slice A l.length c, .agg #[.int .i64 v.key, .int .i64 v.ts, .int .i64 v.value, .bool v.gone]] w (RetVF w (putS l v)) := by
 cases hv : validB l
 ·have hp : putS l v = ([], 1) := by simp [putS, hv]
  rw [hp]
  go_enter Tryz.func57, Tryz.ntmps57
  go_wp2_with (go_at_call 83; with_reducible refine (valid_any A c l _ (by omega) (h.alloc _)).mono ?_; rw [hv]; rintro e w1 ⟨rfl, hb⟩)
  go_ret2
  exact RetVF.none_ (((Below.refl _ _).alloc (Nat.le_refl _) _).trans (hb.mono (by simp)))
 ·cases hw : wfB v
  ·have hp : putS l v = ([], 1) := by simp [putS, hv, hw]
   rw [hp]; have hwfv : wfB ⟨v.key, v.ts, v.value, v.gone⟩ = false := hw
   go_enter Tryz.func57, Tryz.ntmps57
   go_wp2_with (first | (go_at_call 83; with_reducible refine (valid_any A c l _ (by omega) (h.alloc _)).mono ?_; rw [hv]; rintro e w1 ⟨rfl, hb⟩; have n1 := (VAt.new (v := v) rfl).below hb (by simp); unfold VAt at n1) | (go_at_call 84; refine (wf_any _ _ _ _ _).mono ?_; rw [hwfv]; rintro e w2 ⟨rfl, hb2⟩))
   go_ret2
   exact RetVF.none_ ((((Below.refl _ _).alloc (Nat.le_refl _) _).trans (hb.mono (by simp))).trans (hb2.mono (by have := hb.size; simp at this; omega)))
  ·have hst := (sto_iff l).1 hv; have hn : l.length ≤ 4611686018427387904 := by have := hst.len; omega
   have hwfv : wfB ⟨v.key, v.ts, v.value, v.gone⟩ = true := hw
   go_enter Tryz.func57, Tryz.ntmps57
   go_upto_region 3 with (first | (go_at_call 83; with_reducible refine (valid_any A c l _ (by omega) (h.alloc _)).mono ?_; rw [hv]; rintro e w1 ⟨rfl, hb⟩; have n1 := (VAt.new (v := v) rfl).below hb (by simp); unfold VAt at n1) | (go_at_call 84; refine (wf_any _ _ _ _ _).mono ?_; rw [hwfv]; rintro e w2 ⟨rfl, hb2⟩))
   have b2 : Below w.heap.size w w2 := (((Below.refl _ _).alloc (Nat.le_refl _) _).trans (hb.mono (by simp))).trans (hb2.mono (by have := hb.size; simp at this; omega)); have hw2 : w.heap.size < w2.heap.size := by have h1 := hb.size; have h2 := hb2.size; simp at h1; omega
   have h2 : VS w2 A l := h.below b2 (Nat.le_refl _); have n2 : VAt w2 w.heap.size 0 v := VAt.below (w := w1) (by unfold VAt; exact n1) hb2 (by have := hb.size; simp at this; omega); clear n1 hb hb2; have n3 := n2.fut hw2; unfold VAt at n3; have hlast := fun x : Fut w2.heap.size w2 => last_any A c l v.key 3000000000000000 (upN l v.key 3000000000000000) x.v hn (h2.below x.h (Nat.le_refl _)) (upN_spec hst.up _ _)
   unfold Ver.val at hlast; have HL := hide hlast; have HV := hide hv; have HW := hide hw; clear hlast hv hw hwfv
   by_cases ho : v.ts ≤ (lastN l v.key (upN l v.key 3000000000000000)).ts
   ·have ho' := decide_eq_true ho; have hp : putS l v = ([], 30) := by simp [putS, HV.out, HW.out, lastV, ho]
    have HP := hide hp; clear hp ho; refine wp_region_fut w2.heap.size (by kernel_rfl) (by kernel_rfl) ?_
    repeat (go_big_quiet_step ((go_at_call 85; exact Fut.call (Nat.le_refl _) (HL.out _))))
    refine wpQuiet_nil ?_; rintro _ ⟨⟨w3, hb3⟩, rfl⟩
    go_wp2
    go_ret2
    rw [HP.out]; exact RetVF.none_ (b2.trans (hb3.mono (by omega)))
   ·have ho' := decide_eq_false ho; have HO := hide ho; clear ho; refine wp_region_fut w2.heap.size (by kernel_rfl) (by kernel_rfl) ?_
    repeat (go_big_quiet_step ((go_at_call 85; exact Fut.call (Nat.le_refl _) (HL.out _))))
    refine wpQuiet_nil ?_; intro w3 hq'; have hb3 := Fut.of hq'; clear hq'
    by_cases h4 : l.length = 4000
    ·have h4' : ((l.length : Int) == 4000) = true := by simp; omega
     have hp : putS l v = ([], 2) := by simp [putS, HV.out, HW.out, lastV, HO.out, h4]
     have HP := hide hp; clear hp h4
     go_wp2
     go_ret2
     rw [HP.out]; exact RetVF.none_ (b2.trans (hb3.mono (by omega)))
    ·have h4' : ((l.length : Int) == 4000) = false := by simp; omega
     have hp : putS l v = (putL l v, 0) := by simp [putS, HV.out, HW.out, lastV, HO.out, h4]
     have HP := hide hp; clear hp
     go_upto_region 7 with fail
     have hw3 : w.heap.size < w3.heap.size := by have := hb3.size; omega
     have h3 : VS w3 A l := h2.below hb3 (Nat.le_refl _); have n3 : VAt w3 w.heap.size 0 v := n2.below hb3 hw2; have b3 : Below w.heap.size w w3 := b2.trans (hb3.mono (by omega)); clear hb3
     go_region_held3 (fun w' => Below w3.heap.size w3 w' ∧ w'.cell? ⟨w.heap.size, 0, none⟩ = some (.int .i64 v.key) ∧ w'.cell? ⟨w.heap.size, 1, none⟩ = some (.int .i64 v.ts) ∧ w'.cell? ⟨w.heap.size, 2, none⟩ = some (.int .i64 v.value) ∧ w'.cell? ⟨w.heap.size, 3, none⟩ = some (.bool v.gone))
      ((refine keepV ?_ hw3 n3; (repeat (first | exact Below.refl _ _ | (refine Below.drew ?_) | (refine Below.alloc ?_ (by (first | ((repeat (first | simp only [World.size_alloc] | simp only [heap_drew])); omega) | omega | (simp; omega))) _) | (refine Below.trans ?_ (Below.mono (by assumption) (by (first | ((repeat (first | simp only [World.size_alloc] | simp only [heap_drew])); omega) | omega | (simp; omega)))))))))
      (first
       | (go_at_call 87; refine (cloneV_any A c l _ (by have := hst.len; omega) (h3.below (And.left (by assumption)) (Nat.le_refl _))).mono ?_; rintro e w4 ⟨v1, rfl, ho1, hb4⟩; obtain ⟨A1, c1, rfl, hlc, hcm, hvs⟩ := ho1.form; have hs4 := hb4.size; (repeat (first | simp only [World.size_alloc] at hs4 | simp only [heap_drew] at hs4)); clear hvs)
       | (go_at_call 88; refine (upTo_any A c l v.key v.ts (upN l v.key v.ts) _ hn (h3.below (And.left (by assumption)) (Nat.le_refl _)) (upN_spec hst.up _ _)).mono ?_; rintro e w5 ⟨rfl, hb5⟩; have hs5 := hb5.size; (repeat (first | simp only [World.size_alloc] at hs5 | simp only [heap_drew] at hs5)))
       | (go_at_call 86; refine (insertV_any A1 c1 l (upN l v.key v.ts) v _ _ _ (ho1.below (by (repeat (first | exact Below.refl _ _ | (refine Below.drew ?_) | (refine Below.alloc ?_ (by (first | ((repeat (first | simp only [World.size_alloc] | simp only [heap_drew])); omega) | omega | (simp; omega))) _) | (refine Below.trans ?_ (Below.mono (by assumption) (by (first | ((repeat (first | simp only [World.size_alloc] | simp only [heap_drew])); omega) | omega | (simp; omega))))))))) (by (first | ((repeat (first | simp only [World.size_alloc] | simp only [heap_drew])); omega) | omega | (simp; omega))) ((upN_spec hst.up _ _).le) (by have := hst.len; omega) (by (first | exact Blk.new _ _ _ | exact Blk.drew (Blk.new _ _ _) | (refine Blk.below (Blk.new _ _ _) (by assumption) (by simp)) | (refine Blk.below (Blk.below (Blk.new _ _ _) (by assumption) (by simp)) (by assumption) (by (first | ((repeat (first | simp only [World.size_alloc] | simp only [heap_drew])); omega) | omega | (simp; omega)))) | (refine Blk.below (Blk.below (Blk.drew (Blk.new _ _ _)) (by assumption) (by simp)) (by assumption) (by (first | ((repeat (first | simp only [World.size_alloc] | simp only [heap_drew])); omega) | omega | (simp; omega)))))) (fun a ha => by have hq := ho1.blk ha; try simp only [World.size_alloc, heap_drew] at hq ⊢; omega)).mono ?_; rintro e w6 ⟨v6, rfl, ho6, hb6⟩; change OwnV w6 _ v6 (putL l v) at ho6; obtain ⟨A6, c6, rfl, hlc6, hcm6, hvs6⟩ := ho6.form; have hs6 := hb6.size; (repeat (first | simp only [World.size_alloc] at hs6 | simp only [heap_drew] at hs6))))
     all_goals
      go_wp2
      go_ret2
      rw [HP.out]; refine ⟨A6, c6, rfl, hlc6, hcm6, hvs6, fun a ha => (by have h9 := (ho6.blk ha).1; have h8 := b3.size; (repeat (first | simp only [World.size_alloc] at h9 | simp only [heap_drew] at h9)); omega), b3.trans ?_⟩; have hq : Below w3.heap.size w3 w6 := by (repeat (first | exact Below.refl _ _ | (refine Below.drew ?_) | (refine Below.alloc ?_ (by (first | ((repeat (first | simp only [World.size_alloc] | simp only [heap_drew])); omega) | omega | (simp; omega))) _) | (refine Below.trans ?_ (Below.mono (by assumption) (by (first | ((repeat (first | simp only [World.size_alloc] | simp only [heap_drew])); omega) | omega | (simp; omega)))))))
      exact hq.mono (by omega)
end Go.Proofs.YtkchfmhgboiimaaGreat
namespace Go.Proofs.YtkchfmhgboiimaaGreat
open Go.RowKit
set_option maxHeartbeats 2000000 in
theorem read_gfr (A : Option Addr) (c : Nat) (l : List Ver) (t : Int) (w : World) (h : VS w A l) (hv : validB l = true) (ht : stampB t = true) :
    Calls Tryz.prog 58 #[.slice A l.length c, .int .i64 t] w (RetVF w (readL l t, 0)) := by
  have htB : (decide (1 ≤ t) && decide (t ≤ 3000000000000000)) = stampB t := rfl
  have hst := (sto_iff l).1 hv
  have hn : l.length ≤ 4000 := hst.len
  obtain ⟨i0, hi, hz0, hz1, hz2⟩ := info_parts infoV
  go_enter Tryz.func58, Tryz.ntmps58
  go_wp2
  go_step3
  go_wp2_with (first | (go_at_call 83; with_reducible refine (valid_any A c l _ (by omega) h).mono ?_; rw [hv]; rintro e w1 ⟨rfl, hb⟩) | (go_at_call 89; refine (isStamp_any _ _).mono ?_; rw [htB, ht]; rintro e w2 ⟨rfl, rfl⟩))
  go_step3
  go_wp2
  clear hv ht htB
  go_loopw [6, 7, 8, 9] (fun u6 u7 _ _ wr => ∃ (i : Nat) (p : Option Int) (o : List Ver), i ≤ l.length ∧ u7 = .int .i64 i ∧ (∀ hi : i < l.length, p ≠ some l[i].key ∧ ∀ j (hj : j < l.length), j < i → l[j].key < l[i].key) ∧
      (readL l t = o ++ (heads p (l.drop i)).filterMap fun k => showV (lastV l k t)) ∧ OwnV wr w.heap.size u6 o ∧ o.length ≤ i ∧ Below w.heap.size w wr)
    (fun _ u7 _ _ _ => l.length - (intOf u7).toNat)
  case atStart => exact ⟨0, none, [], Nat.zero_le _, rfl, fun hi => ⟨by simp, fun j _ hj => by omega⟩, by simp [readL], World.ownsRow_nil _ _ _ _, Nat.le_refl _, hb⟩
  case round =>
    obtain ⟨i, p, o, hil, rfl, hfst, hout, hown, hol, hbr⟩ := hrel
    have HF := hide hfst
    have HO := hide hout
    have HW := hide hown
    clear hfst hout hown
    by_cases hlt : i < l.length
    · have hr := h.below hbr (Nat.le_refl _)
      obtain ⟨b', o', rfl, hb', hc⟩ := hr.at_ hlt
      have c0 := hc i hlt
      have HR := hide hr
      unfold VAt at c0
      clear hc hr
      have hup := fun k t => upN_spec hst.up k t
      have HU := hide hup
      clear hup
      obtain ⟨x, hx⟩ : ∃ x, x = lastV l l[i].key t := ⟨_, rfl⟩
      have hlast := fun w1 h1 => last_any (some ⟨b', o', none⟩) c l l[i].key t (upN l l[i].key t) w1 (by omega) h1 (HU.out _ _)
      change ∀ w1 h1, Calls _ _ _ w1 (fun e w' => e = .returned (lastV l l[i].key t).val ∧ Below w1.heap.size w1 w') at hlast
      rw [← hx] at hlast
      obtain ⟨xk, xt, xv, xg⟩ := x
      have HL := hide hlast
      have HX := hide hx
      clear hlast hx
      go_upto_region 9 with (first
        | (go_at_call 85; refine (HL.out _ HR.out).mono ?_; unfold Ver.val; rintro e w3 ⟨rfl, hb3⟩)
        | (go_at_call 88; refine (upTo_any _ c l l[i].key 3000000000000000 (upN l l[i].key 3000000000000000) _ (by omega) ((VS.below HR.out hb3 (Nat.le_refl _)).alloc _) (HU.out _ _)).mono ?_; rintro e w4 ⟨rfl, hb4⟩; have q := (Blk.new _ _ _).below hb4 (by simp); have qc := q.cell; have qf := q.frozen))
      have hN := HU.out l[i].key 3000000000000000
      have hgr := drop_group hst hlt (HF.out hlt).2
      have hround := read_round hst (t := t) hlt (HF.out hlt).1 (HF.out hlt).2 HO.out
      have hnext := fun hn => next_first hst hlt hn
      rw [← HX.out] at hround
      have b4 : Below w.heap.size w w4 := hbr.trans ((hb3.mono hbr.size).trans (((Below.refl _ _).alloc (by have := hb3.size; have := hbr.size; omega) _).trans (hb4.mono (by have := hb3.size; have := hbr.size; simp; omega))))
      have how : OwnV w4 w.heap.size u6 o := ((OwnV.below HW.out hb3).below ((Below.refl _ _).alloc (Nat.le_refl _) _)).below hb4
      have hs4 : w3.heap.size < w4.heap.size := q.lt
      have hs3 : wr.heap.size ≤ w3.heap.size := hb3.size
      have hsr : w.heap.size ≤ wr.heap.size := hbr.size
      have HN := hide hN
      have HG := hide hgr
      have HD := hide hround
      have HE := hide hnext
      have HH := hide how
      clear hN hgr hround hnext how
      have hres : ((eqB xk xt xv xg 0 0 0 false = true ∨ (eqB xk xt xv xg 0 0 0 false = false ∧ xg = true)) ∧ (showV ⟨xk, xt, xv, xg⟩).toList = []) ∨
          (eqB xk xt xv xg 0 0 0 false = false ∧ xg = false) ∧ (showV ⟨xk, xt, xv, xg⟩).toList = [⟨xk, xt, xv, xg⟩] := by
        by_cases hz : (⟨xk, xt, xv, xg⟩ : Ver) = Ver.zero
        · exact .inl ⟨.inl (decide_eq_true hz), by unfold showV; rw [if_pos (.inl hz)]; rfl⟩
        · have he : eqB xk xt xv xg 0 0 0 false = false := decide_eq_false hz
          by_cases hg : xg = true
          · exact .inl ⟨.inr ⟨he, hg⟩, by unfold showV; rw [if_pos (.inr hg)]; rfl⟩
          · exact .inr ⟨⟨he, by simpa using hg⟩, by unfold showV; rw [if_neg (fun h => h.elim hz hg)]; rfl⟩
      rcases hres with ⟨hz | ⟨hz, rfl⟩, hp⟩ | ⟨⟨hz, rfl⟩, hp⟩
      · have HP := hide hp
        clear hp
        go_wp2
        go_roundw
        case rel => exact ⟨upN l l[i].key 3000000000000000, some l[i].key, o, HN.out.le, rfl, fun hn => ⟨(HE.out hn).2, (HE.out hn).1⟩, by rw [HD.out, HP.out, List.append_nil], HH.out, by have := HG.out.2; omega, b4⟩
        case measure => have := HG.out.2; simp [intOf]; omega
      · have HP := hide hp
        clear hp
        go_wp2
        go_roundw
        case rel => exact ⟨upN l l[i].key 3000000000000000, some l[i].key, o, HN.out.le, rfl, fun hn => ⟨(HE.out hn).2, (HE.out hn).1⟩, by rw [HD.out, HP.out, List.append_nil], HH.out, by have := HG.out.2; omega, b4⟩
        case measure => have := HG.out.2; simp [intOf]; omega
      · have HP := hide hp
        clear hp
        go_wp2_with (at_builtin; refine wpList_append_rd _ rfl _ _ 33 rfl w.heap.size 50 i0 _ 4 32 Tryz.underlying33 hi hz0 hz1 hz2 rfl (by decide) _ _ _ rfl (OwnV.below HH.out ((Below.refl _ _).alloc (Nat.le_refl _) _)) (some ⟨w4.heap.size, 0, none⟩) 1 1 (Ver.cells ⟨xk, xt, xv, false⟩) rfl rfl (Rd.new_row _ _ _) (by simpa using ver_one [⟨xk, xt, xv, false⟩]) ?_ ?_ ?_ ?_)
        · simp only [maxLen]; omega
        · omega
        · simp; omega
        intro v' w5 hown' hgrow _
        go_wp2
        go_roundw
        case rel =>
          refine ⟨upN l l[i].key 3000000000000000, some l[i].key, o ++ [⟨xk, xt, xv, false⟩], HN.out.le, rfl, fun hn => ⟨(HE.out hn).2, (HE.out hn).1⟩, by rw [HD.out, HP.out], by simpa [OwnV] using hown', by have := HG.out.2; simp; omega, ?_⟩
          exact (b4.alloc (by omega) _).grown hgrow (by simp; omega) (fun k hk => (HH.out.lt k hk).1)
        case measure => have := HG.out.2; simp [intOf]; omega
    · obtain ⟨A6, c6, rfl, hlc6, hcm6, hvs6⟩ := HW.out.form
      go_wp2
      try rw [Exit.noGoto_ret]
      go_ret2
      have hd : o = readL l t := by rw [HO.out, List.drop_eq_nil_of_le (by omega)]; simp [heads]
      rw [← hd]
      exact ⟨A6, c6, rfl, hlc6, hcm6, hvs6, fun a ha => (HW.out.blk ha).1, hbr⟩
set_option maxHeartbeats 1000000 in
theorem read_fr (A : Option Addr) (c : Nat) (l : List Ver) (t : Int) (w : World) (hn : l.length ≤ 9223372036854775807) (h : VS w A l) :
  Calls Tryz.prog 58 #[.slice A l.length c, .int .i64 t] w (RetVF w (readS l t)) := by
 have htB : (decide (1 ≤ t) && decide (t ≤ 3000000000000000)) = stampB t := rfl; cases hv : validB l
 ·have hp : readS l t = ([], 1) := by simp [readS, hv]
  rw [hp]
  go_enter Tryz.func58, Tryz.ntmps58
  go_wp2
  go_step3
  go_wp2_with (first | (go_at_call 83; with_reducible refine (valid_any A c l _ (by omega) h).mono ?_; rw [hv]; rintro e w1 ⟨rfl, hb⟩))
  try go_step3
  try go_wp2
  try rw [Exit.noGoto_ret]
  go_ret2
  exact RetVF.none_ hb
 ·cases ht : stampB t
  ·have hp : readS l t = ([], 1) := by simp [readS, ht]
   rw [hp]
   go_enter Tryz.func58, Tryz.ntmps58
   go_wp2
   go_step3
   go_wp2_with (first | (go_at_call 83; with_reducible refine (valid_any A c l _ (by omega) h).mono ?_; rw [hv]; rintro e w1 ⟨rfl, hb⟩) | (go_at_call 89; refine (isStamp_any _ _).mono ?_; rw [htB, ht]; rintro e w2 ⟨rfl, rfl⟩))
   try go_step3
   try go_wp2
   try rw [Exit.noGoto_ret]
   go_ret2
   exact RetVF.none_ hb
  ·have hp : readS l t = (readL l t, 0) := by simp [readS, hv, ht]
   rw [hp]; exact read_gfr A c l t w h hv ht
end Go.Proofs.YtkchfmhgboiimaaGreat
namespace Go.Proofs.YtkchfmhgboiimaaGreat
open Go.RowKit
set_option maxHeartbeats 1000000 in
theorem rPut_fr (A : Option Addr) (c : Nat) (l : List Ver) (v : Ver) (w : World) (hn : l.length ≤ 9223372036854775807) (hlc : l.length ≤ c) (h : VS w A l) :
  Calls Tryz.prog 59 #[.slice A l.length c, .agg #[.int .i64 v.key, .int .i64 v.ts, .int .i64 v.value, .bool v.gone]] w (RetVF w (rPutS l v)) := by
 cases hv : validB l
 ·have hp : rPutS l v = ([], 1) := by simp [rPutS, hv]
  rw [hp]
  go_enter Tryz.func59, Tryz.ntmps59
  go_wp2_with (go_at_call 90; with_reducible refine (rValid_any A c l _ (by omega) (h.alloc _)).mono ?_; rw [hv]; rintro e w1 ⟨rfl, hb⟩)
  go_ret2
  exact RetVF.none_ (((Below.refl _ _).alloc (Nat.le_refl _) _).trans (hb.mono (by simp)))
 ·cases hw : wfB v
  ·have hp : rPutS l v = ([], 1) := by simp [rPutS, hv, hw]
   rw [hp]; have hwfv : wfB ⟨v.key, v.ts, v.value, v.gone⟩ = false := hw
   go_enter Tryz.func59, Tryz.ntmps59
   go_wp2_with (first | (go_at_call 90; with_reducible refine (rValid_any A c l _ (by omega) (h.alloc _)).mono ?_; rw [hv]; rintro e w1 ⟨rfl, hb⟩; have n1 := (VAt.new (v := v) rfl).below hb (by simp); unfold VAt at n1) | (go_at_call 91; refine (rVersion_any _ _ _ _ _).mono ?_; rw [hwfv]; rintro e w2 ⟨rfl, hb2⟩))
   go_ret2
   exact RetVF.none_ ((((Below.refl _ _).alloc (Nat.le_refl _) _).trans (hb.mono (by simp))).trans (hb2.mono (by have := hb.size; simp at this; omega)))
  ·have hst := (sto_iff l).1 hv; have hwfv : wfB ⟨v.key, v.ts, v.value, v.gone⟩ = true := hw; obtain ⟨i0, hi, hz0, hz1, hz2⟩ := info_parts infoV
   go_enter Tryz.func59, Tryz.ntmps59
   go_upto_region 3 with (first | (go_at_call 90; with_reducible refine (rValid_any A c l _ (by omega) (h.alloc _)).mono ?_; rw [hv]; rintro e w1 ⟨rfl, hb⟩; have n1 := (VAt.new (v := v) rfl).below hb (by simp); unfold VAt at n1) | (go_at_call 91; refine (rVersion_any _ _ _ _ _).mono ?_; rw [hwfv]; rintro e w2 ⟨rfl, hb2⟩))
   have b2 : Below w.heap.size w w2 := (((Below.refl _ _).alloc (Nat.le_refl _) _).trans (hb.mono (by simp))).trans (hb2.mono (by have := hb.size; simp at this; omega)); have hw2 : w.heap.size < w2.heap.size := by have h1 := hb.size; have h2 := hb2.size; simp at h1; omega
   have h2 : VS w2 A l := h.below b2 (Nat.le_refl _); have n2 : VAt w2 w.heap.size 0 v := VAt.below (w := w1) (by unfold VAt; exact n1) hb2 (by have := hb.size; simp at this; omega); clear n1 hb hb2; have n3 := n2.fut hw2; unfold VAt at n3; have hlast : ∀ x : Fut w2.heap.size w2, Calls _ _ _ _ _ := fun x => (rNewest0_any A c l v.key x.v hn (h2.below x.h (Nat.le_refl _)))
   have HL := hide hlast; have HV := hide hv; have HW := hide hw; clear hlast hv hw hwfv
   by_cases ho : v.ts ≤ newestR l v.key
   ·have ho' := decide_eq_true ho; have hp : rPutS l v = ([], 30) := by simp [rPutS, HV.out, HW.out, ho]
    have HP := hide hp; clear hp ho; refine wp_region_fut w2.heap.size (by kernel_rfl) (by kernel_rfl) ?_
    repeat (go_big_quiet_step ((first | (go_at_call 92; exact Fut.same (HL.out _)))))
    refine wpQuiet_nil ?_; intro w3 hq'; have hb3 := Fut.of hq'; clear hq'
    go_wp2
    go_ret2
    rw [HP.out]; exact RetVF.none_ (b2.trans (hb3.mono (by omega)))
   ·have ho' := decide_eq_false ho; have HO := hide ho; clear ho; refine wp_region_fut w2.heap.size (by kernel_rfl) (by kernel_rfl) ?_
    repeat (go_big_quiet_step ((first | (go_at_call 92; exact Fut.same (HL.out _)))))
    refine wpQuiet_nil ?_; intro w3 hq'; have hb3 := Fut.of hq'; clear hq'
    by_cases h4 : l.length = 4000
    ·have h4' : ((l.length : Int) == 4000) = true := by simp; omega
     have hp : rPutS l v = ([], 2) := by simp [rPutS, HV.out, HW.out, HO.out, h4]
     have HP := hide hp; clear hp h4
     go_wp2
     go_ret2
     rw [HP.out]; exact RetVF.none_ (b2.trans (hb3.mono (by omega)))
    ·have h4' : ((l.length : Int) == 4000) = false := by simp; omega
     have hp : rPutS l v = (rPutL l v, 0) := by simp [rPutS, HV.out, HW.out, HO.out, h4]
     have HP := hide hp; have hl4 : l.length < 4000 := by have := hst.len; omega
     clear hp; have b3 : Below w.heap.size w w3 := b2.trans (hb3.mono (by omega)); have hw3 : w.heap.size < w3.heap.size := by have := hb3.size; omega
     have n4 : VAt w3 w.heap.size 0 v := n2.below hb3 hw2; clear n3 hb3; have N4 := hide n4; clear n4 n2
     go_wp2
     go_loopw [6, 7] (fun u6 u7 wr => ∃ i : Nat, i ≤ l.length ∧ u7 = .int .i64 i ∧ (∀ j (hj : j < l.length), j < i → ltB l[j].key l[j].ts v.key v.ts = true) ∧ OwnV wr (w.heap.size + 1) u6 (l.take i) ∧ Below w.heap.size w wr ∧ VAt wr w.heap.size 0 v)
      (fun _ u7 _ => l.length - (intOf u7).toNat)
     case atStart => exact ⟨0, Nat.zero_le _, rfl, fun j _ hj => by omega, by rw [List.take_zero]; exact World.ownsRow_nil _ _ _ _, b3, N4.out⟩
     case round =>
      obtain ⟨i, hil, rfl, hall, hown, hbr, hn4⟩ := hrel; have HA := hide hall; have HO := hide hown; clear hall hown
      by_cases hlt : i < l.length
      ·have hr := h.below hbr (Nat.le_refl _); obtain ⟨b', o', rfl, hb', hc⟩ := hr.at_ hlt; have hwr : w.heap.size < wr.heap.size := hn4.lt; have c0 := hc i hlt; have cf := c0.fut hb'; have nf := hn4.fut hwr; unfold VAt at cf nf; have HC := hide c0; have HR := hide hr; have HN := hide hn4; clear hc hr c0 hn4; have hi1 : (i : Int) < l.length := by omega
       have hi2 : (0 : Int) ≤ i := by omega
       have hi3 : decide ((i : Int) < l.length) = true := by simp; omega
       go_wp2_with fail
       cases hq : ltB l[i].key l[i].ts v.key v.ts
       all_goals
        refine wp_region_fut wr.heap.size (by kernel_rfl) (by kernel_rfl) ?_
        repeat (go_big_quiet_step ((first | (go_at_call 93; exact Fut.call (Nat.le_refl _) (rBefore_any _ _ _ _ _ _ _ _ _)))))
        refine wpQuiet_nil ?_; intro w4 hq'; have hb4 := Fut.of hq'; clear hq'; clear cf nf; have hs4 := hb4.size; have c1 := HC.out.below hb4 hb'; have n5 := HN.out.below hb4 hwr; have b4 : Below w.heap.size w w4 := hbr.trans (hb4.mono (by omega)); have HO4 := hide (OwnV.below HO.out hb4)
       ·have HQ := hide hq; clear hq c1; have hpl : rPutL l v = l.take i ++ v :: l.drop i := by
         have := while_at (fun x : Ver => ltB x.key x.ts v.key v.ts) l i hil HA.out (fun _ => HQ.out); unfold rPutL; rw [this.1, this.2]
        have HL2 := hide hpl; clear hpl; unfold VAt at n5
        go_wp2_with (at_builtin; refine wpList_append_rd _ rfl _ _ 33 rfl (w.heap.size + 1) 50 i0 _ 4 32 Tryz.underlying33 hi hz0 hz1 hz2 rfl (by decide) _ _ _ rfl (OwnV.below HO4.out ((Below.refl _ _).alloc (Nat.le_refl _) _)) (some ⟨w4.heap.size, 0, none⟩) 1 1 (Ver.cells v) rfl rfl (Rd.new_row _ _ _) (by simpa using ver_one [v]) ?_ ?_ ?_ ?_)
        ·simp only [maxLen, List.length_take]; omega
        ·simp only [List.length_take]; omega
        ·simp; omega
        intro v' w5 hown' hgrow _; have b5 : Below (w.heap.size + 1) w4 w5 := ((Below.refl _ _).alloc (by omega) _).grown hgrow (by simp; omega) (fun k hk => (HO4.out.lt k hk).1); have ho5 := OwnV.snoc hown' (by simp; omega) rfl; have H5 := hide ho5; clear hown' hgrow ho5; have hl5 : (l.take i ++ [v]).length = i + 1 := by simp; omega
        have hone : ∀ u ∈ (l.drop i).flatMap Ver.cells, u.oneCell' = true := ver_one _
        go_wp2_with (at_builtin; refine wpList_append_rd _ rfl _ _ 33 rfl (w.heap.size + 1) 50 i0 _ 4 32 Tryz.underlying33 hi hz0 hz1 hz2 rfl (by decide) _ _ _ rfl (H5.out) _ (l.length - i) _ ((l.drop i).flatMap Ver.cells) rfl ?_ ?_ hone ?_ ?_ ?_ ?_)
        ·rw [flat_len Ver.cells 4 (fun _ => rfl), List.length_drop]
        ·exact VS.shift (h.below (b4.trans (b5.mono (by omega))) (Nat.le_refl _)) hil
        ·rw [hl5]; simp only [maxLen]; omega
        ·rw [hl5]; omega
        ·have := b5.size; omega
        intro v' w6 hown' hgrow _; have b6 : Below (w.heap.size + 1) w5 w6 := (Below.refl _ _).grown hgrow (by have := b5.size; omega) (fun k hk => (H5.out.lt k hk).1); have ho6 : OwnV w6 (w.heap.size + 1) v' (rPutL l v) := by
         rw [HL2.out, show l.take i ++ v :: l.drop i = (l.take i ++ [v]) ++ l.drop i from by simp]; exact OwnV.app hown' (by rw [List.length_append, hl5, List.length_drop]) (by simp)
        obtain ⟨A6, c6, rfl, hlc6, hcm6, hvs6⟩ := ho6.form
        go_wp2
        go_ret2
        rw [HP.out]; exact ⟨A6, c6, rfl, hlc6, hcm6, hvs6, fun a ha => Nat.le_of_succ_le (ho6.blk ha).1, b4.trans ((b5.trans b6).mono (by omega))⟩
       ·unfold VAt at c1
        go_wp2_with (at_builtin; refine wpList_append_rd _ rfl _ _ 33 rfl (w.heap.size + 1) 50 i0 _ 4 32 Tryz.underlying33 hi hz0 hz1 hz2 rfl (by decide) _ _ _ rfl (OwnV.below HO4.out ((Below.refl _ _).alloc (Nat.le_refl _) _)) (some ⟨w4.heap.size, 0, none⟩) 1 1 (Ver.cells l[i]) rfl rfl (Rd.new_row _ _ _) (by simpa using ver_one [l[i]]) ?_ ?_ ?_ ?_)
        ·simp only [maxLen, List.length_take]; omega
        ·simp only [List.length_take]; omega
        ·simp; omega
        intro v' w5 hown' hgrow _; have b5 : Below (w.heap.size + 1) w4 w5 := ((Below.refl _ _).alloc (by omega) _).grown hgrow (by simp; omega) (fun k hk => (HO4.out.lt k hk).1)
        go_wp2
        go_roundw
        case rel =>
         refine ⟨i + 1, by omega, by go_num, fun j hj hji => ?_, ?_, b4.trans (b5.mono (by omega)), n5.below b5 (by omega)⟩
         ·rcases Nat.lt_succ_iff_lt_or_eq.1 hji with hji | rfl
          ·exact HA.out j hj hji
          ·exact hq
         ·rw [List.take_succ_eq_append_getElem hlt]; exact OwnV.snoc hown' (by simp; omega) rfl
        case measure => simp [intOf]; omega
      ·have hwr : w.heap.size < wr.heap.size := hn4.lt; have nf := hn4.fut hwr; unfold VAt at nf; have HN := hide hn4; clear hn4
       by_cases hci : c = i
       all_goals
        have hi3 : decide ((i : Int) < l.length) = false := by simp; omega
        go_wp2_with fail
        refine wp_region_fut wr.heap.size (by kernel_rfl) (by kernel_rfl) ?_
        repeat (go_big_quiet_step ((first | fail)))
        refine wpQuiet_nil ?_; intro w4 hq'; have hb4 := Fut.of hq'; clear hq'; clear nf; have hs4 := hb4.size; have n5 := HN.out.below hb4 hwr; have b4 : Below w.heap.size w w4 := hbr.trans (hb4.mono (by omega)); have HO4 := hide (OwnV.below HO.out hb4); have hpl : rPutL l v = l.take i ++ v :: l.drop i := by
         have := while_at (fun x : Ver => ltB x.key x.ts v.key v.ts) l i hil HA.out (fun hh => absurd hh hlt); unfold rPutL; rw [this.1, this.2]
        have HL2 := hide hpl; clear hpl; unfold VAt at n5
        go_wp2_with (at_builtin; refine wpList_append_rd _ rfl _ _ 33 rfl (w.heap.size + 1) 50 i0 _ 4 32 Tryz.underlying33 hi hz0 hz1 hz2 rfl (by decide) _ _ _ rfl (OwnV.below HO4.out ((Below.refl _ _).alloc (Nat.le_refl _) _)) (some ⟨w4.heap.size, 0, none⟩) 1 1 (Ver.cells v) rfl rfl (Rd.new_row _ _ _) (by simpa using ver_one [v]) ?_ ?_ ?_ ?_)
        ·simp only [maxLen, List.length_take]; omega
        ·simp only [List.length_take]; omega
        ·simp; omega
        intro v' w5 hown' hgrow _; have b5 : Below (w.heap.size + 1) w4 w5 := ((Below.refl _ _).alloc (by omega) _).grown hgrow (by simp; omega) (fun k hk => (HO4.out.lt k hk).1); have ho5 := OwnV.snoc hown' (by simp; omega) rfl; have H5 := hide ho5; clear hown' hgrow ho5; have hl5 : (l.take i ++ [v]).length = i + 1 := by simp; omega
        have hone : ∀ u ∈ (l.drop i).flatMap Ver.cells, u.oneCell' = true := ver_one _
        go_wp2_with (at_builtin; refine wpList_append_rd _ rfl _ _ 33 rfl (w.heap.size + 1) 50 i0 _ 4 32 Tryz.underlying33 hi hz0 hz1 hz2 rfl (by decide) _ _ _ rfl (H5.out) _ (l.length - i) _ ((l.drop i).flatMap Ver.cells) rfl ?_ ?_ hone ?_ ?_ ?_ ?_)
        ·rw [flat_len Ver.cells 4 (fun _ => rfl), List.length_drop]
        ·rw [List.drop_eq_nil_of_le (by omega)]; exact Rd.nil _ _
        ·rw [hl5]; simp only [maxLen]; omega
        ·rw [hl5]; omega
        ·have := b5.size; omega
        intro v' w6 hown' hgrow _; have b6 : Below (w.heap.size + 1) w5 w6 := (Below.refl _ _).grown hgrow (by have := b5.size; omega) (fun k hk => (H5.out.lt k hk).1); have ho6 : OwnV w6 (w.heap.size + 1) v' (rPutL l v) := by
         rw [HL2.out, show l.take i ++ v :: l.drop i = (l.take i ++ [v]) ++ l.drop i from by simp]; exact OwnV.app hown' (by rw [List.length_append, hl5, List.length_drop]) (by simp)
        obtain ⟨A6, c6, rfl, hlc6, hcm6, hvs6⟩ := ho6.form
        go_wp2
        go_ret2
        rw [HP.out]; exact ⟨A6, c6, rfl, hlc6, hcm6, hvs6, fun a ha => Nat.le_of_succ_le (ho6.blk ha).1, b4.trans ((b5.trans b6).mono (by omega))⟩
end Go.Proofs.YtkchfmhgboiimaaGreat
namespace Go.Proofs.YtkchfmhgboiimaaGreat
open Go.RowKit
set_option maxHeartbeats 2000000 in
theorem rRead_fr (A : Option Addr) (c : Nat) (l : List Ver) (t : Int) (w : World) (hn : l.length ≤ 9223372036854775807) (h : VS w A l) :
  Calls Tryz.prog 60 #[.slice A l.length c, .int .i64 t] w (RetVF w (rReadS l t)) := by
 cases hv : validB l
 ·have hp : rReadS l t = ([], 1) := by simp [rReadS, hv]
  rw [hp]
  go_enter Tryz.func60, Tryz.ntmps60
  go_wp2_with (go_at_call 90; with_reducible refine (rValid_any A c l _ (by omega) h).mono ?_; rw [hv]; rintro e w1 ⟨rfl, hb⟩)
  go_ret2
  exact RetVF.none_ hb
 ·cases ht : stampB t
  ·have hp : rReadS l t = ([], 1) := by simp [rReadS, hv, ht]
   rw [hp]
   go_enter Tryz.func60, Tryz.ntmps60
   go_wp2_with (first | (go_at_call 90; with_reducible refine (rValid_any A c l _ (by omega) h).mono ?_; rw [hv]; rintro e w1 ⟨rfl, hb⟩) | (go_at_call 26; refine (rStamp_any _ _).mono ?_; rw [ht]; rintro e w2 ⟨rfl, rfl⟩))
   go_ret2
   exact RetVF.none_ hb
  ·have hp : rReadS l t = (rReadL l t, 0) := by simp [rReadS, hv, ht]
   rw [hp]; have hst := (sto_iff l).1 hv; have hn4 : l.length ≤ 4000 := hst.len; obtain ⟨i0, hi, hz0, hz1, hz2⟩ := info_parts infoV
   go_enter Tryz.func60, Tryz.ntmps60
   go_wp2_with (first | (go_at_call 90; with_reducible refine (rValid_any A c l _ (by omega) h).mono ?_; rw [hv]; rintro e w1 ⟨rfl, hb⟩) | (go_at_call 26; refine (rStamp_any _ _).mono ?_; rw [ht]; rintro e w2 ⟨rfl, rfl⟩))
   clear hv ht hp
   go_loopw [6, 7, 8, 9] (fun u6 u7 _ _ wr => ∃ i : Nat, i ≤ l.length ∧ u7 = .int .i64 i ∧ OwnV wr w.heap.size u6 ((List.range i).filterMap (rOne l t)) ∧ Below w.heap.size w wr)
    (fun _ u7 _ _ _ => l.length - (intOf u7).toNat)
   case atStart => exact ⟨0, Nat.zero_le _, rfl, World.ownsRow_nil _ _ _ _, hb⟩
   case round =>
    obtain ⟨i, hil, rfl, hown, hbr⟩ := hrel; have hol : ((List.range i).filterMap (rOne l t)).length ≤ i := by simpa using List.length_filterMap_le (rOne l t) (List.range i)
    have HO := hide hown; clear hown; obtain ⟨o, ho⟩ : ∃ o, o = (List.range i).filterMap (rOne l t) := ⟨_, rfl⟩; rw [← ho] at HO hol; have HQ := hide ho; clear ho
    by_cases hlt : i < l.length
    ·have hr := h.below hbr (Nat.le_refl _); obtain ⟨b', o', rfl, hb', hc⟩ := hr.at_ hlt; have hsr : w.heap.size ≤ wr.heap.size := hbr.size; have HC := hide hc; clear hc; have c0 := HC.out i hlt; have n0 := c0.fut hb'; unfold VAt at n0; have C0 := hide c0; have HR := hide hr; clear c0 hr; have hstep := range_step (rOne l t) i; have hi1 : (i : Int) < l.length := by omega
     have hi2 : (0 : Int) ≤ i := by omega
     go_wp2_with fail
     have hi0 : i - 1 < l.length := by omega
     by_cases hskip : 0 < i ∧ (l.getD (i - 1) Ver.zero).key = (l.getD i Ver.zero).key
     ·have h1 : rOne l t i = none := if_pos hskip; rw [h1] at hstep; have HS := hide hstep; have d0 : decide (0 < i) = true := by simp; omega
      have m0 := (HC.out (i - 1) hi0).fut hb'; unfold VAt at m0; have hk : (l[i - 1].key == l[i].key) = true := by have := hskip.2; rw [getD_at hlt, getD_at hi0] at this; simp [this]
      have hlt1 : (i : Int) - 1 < (l.length : Int) := by omega
      have hnn : (0 : Int) ≤ (i : Int) - 1 := by omega
      have K := hide hskip; clear hskip hstep h1; refine wp_region_fut wr.heap.size (by kernel_rfl) (by kernel_rfl) ?_
      repeat (go_big_quiet_step ((first | fail)))
      refine wpQuiet_nil ?_; intro w4 hq'; have hb4 := Fut.of hq'; clear hq'
      go_wp2
      go_roundw
      case rel => exact ⟨i + 1, by omega, by go_num, by rw [HS.out, ← HQ.out]; simpa using OwnV.below HO.out hb4, hbr.trans (hb4.mono hsr)⟩
      case measure => simp [intOf]; omega
     ·obtain ⟨⟨⟨xk, xt, xv, xg⟩, xb⟩, hx⟩ : ∃ x, x = atR0 l l[i].key t := ⟨_, rfl⟩; have h1 : rOne l t i = if xb = true then some ⟨xk, xt, xv, xg⟩ else none := by unfold rOne; rw [if_neg hskip, getD_at hlt, ← hx]
      have hat := fun w1 h1 => rAt0_any (some ⟨b', o', none⟩) c l l[i].key t w1 hn h1
      rw [← hx] at hat; have HL := hide hat; rw [h1] at hstep; have HS := hide hstep; have m0 := (HC.out (i - 1) hi0).fut hb'; unfold VAt at m0; have hlt1 : (i : Int) - 1 < (l.length : Int) := by omega
      have hk : decide (0 < i) = false ∨ (decide (0 < i) = true ∧ (0 : Int) ≤ (i : Int) - 1) ∧ (l[i - 1].key == l[i].key) = false := by
       rcases Nat.eq_zero_or_pos i with h0 | h0
       ·exact .inl (by simp [h0])
       ·refine .inr ⟨⟨by simp [h0], by omega⟩, ?_⟩; rw [beq_eq_false_iff_ne]; intro e; exact hskip ⟨h0, by rw [getD_at hlt, getD_at hi0, e]⟩
      clear hskip hstep h1 hat hx; rcases hk with d0 | ⟨⟨d0, hnn⟩, hk⟩
      all_goals
       refine wp_region_fut wr.heap.size (by kernel_rfl) (by kernel_rfl) ?_
       repeat (go_big_quiet_step ((first | fail)))
       refine wpQuiet_nil ?_; intro w4 hq'; have hb4 := Fut.of hq'; clear hq'; have hs4 := hb4.size; have c4 := C0.out.below hb4 hb'; have b4 : Below w.heap.size w w4 := hbr.trans (hb4.mono hsr); have HO4 := hide (OwnV.below HO.out hb4); have HR4 := hide (VS.below HR.out hb4 (Nat.le_refl _)); unfold VAt at c4; clear n0 m0; cases xb
       ·go_wp2_with (go_at_call 94; refine (HL.out _ HR4.out).mono ?_; unfold RetVB; rintro e w5 ⟨rfl, hb5⟩)
        go_roundw
        case rel => exact ⟨i + 1, by omega, by go_num, by rw [HS.out, ← HQ.out]; simpa using (OwnV.below (OwnV.below HO4.out hb5) ((Below.refl _ _).alloc (Nat.le_refl _) _)), (b4.trans (hb5.mono (by omega))).alloc (by have := hb5.size; omega) _⟩
        case measure => simp [intOf]; omega
       ·go_wp2_with (first
         | (go_at_call 94; refine (HL.out _ HR4.out).mono ?_; unfold RetVB; rintro e w5 ⟨rfl, hb5⟩)
         | (at_builtin; refine wpList_append_rd _ rfl _ _ 33 rfl w.heap.size 50 i0 _ 4 32 Tryz.underlying33 hi hz0 hz1 hz2 rfl (by decide) _ _ _ rfl (OwnV.below (OwnV.below (OwnV.below HO4.out hb5) ((Below.refl _ _).alloc (Nat.le_refl _) _)) ((Below.refl _ _).alloc (Nat.le_refl _) _)) (some ⟨w5.heap.size + 1, 0, none⟩) 1 1 (Ver.cells ⟨xk, xt, xv, xg⟩) rfl rfl (Rd.new_row2 _ _ _ _) (by simpa using ver_one [⟨xk, xt, xv, xg⟩]) ?_ ?_ ?_ ?_))
        ·simp only [maxLen]; omega
        ·omega
        ·have := hb5.size; simp; omega
        intro v' w6 hown' hgrow _
        go_wp2
        go_roundw
        case rel =>
         refine ⟨i + 1, by omega, by go_num, by rw [HS.out, ← HQ.out]; exact OwnV.snoc hown' rfl rfl, ?_⟩; have := hb5.size; exact (((b4.trans (hb5.mono (by omega))).alloc (by omega) _).alloc (by simp; omega) _).grown hgrow (by simp; omega) (fun k hk => (HO4.out.lt k hk).1)
        case measure => simp [intOf]; omega
    ·obtain ⟨A6, c6, rfl, hlc6, hcm6, hvs6⟩ := HO.out.form
     go_wp2
     go_ret2
     have hd : o = rReadL l t := by rw [HQ.out, show i = l.length from by omega]; rfl
     rw [← hd]; exact ⟨A6, c6, rfl, hlc6, hcm6, hvs6, fun a ha => (HO.out.blk ha).1, hbr⟩
end Go.Proofs.YtkchfmhgboiimaaGreat
namespace Go.Proofs.YtkchfmhgboiimaaGreat
open Go.RowKit
def KVersion.v (x : KVersion) : Ver := ⟨x.Key, x.Ts, x.Value, x.Gone⟩
def Ver.k (x : Ver) : KVersion := ⟨x.key, x.ts, x.value, x.gone⟩
theorem kv_cells (l : List KVersion) : (l.map KVersion.v).flatMap Ver.cells = l.flatMap KVersion.cells := by
 induction l with
 | nil => rfl
 | cons x l ih => rw [List.map_cons, List.flatMap_cons, List.flatMap_cons, ih]; rfl
theorem vk_cells (l : List Ver) : (l.map Ver.k).flatMap KVersion.cells = l.flatMap Ver.cells := by
 induction l with
 | nil => rfl
 | cons x l ih => rw [List.map_cons, List.flatMap_cons, List.flatMap_cons, ih]; rfl
def kRes (q : List Ver × Int) : List KVersion × Int := (q.1.map Ver.k, q.2)
def G_regulatorref33_Put (_ : Nat) (l : List KVersion) (v : KVersion) : Option (List KVersion × Int) := if l.length ≤ 9223372036854775807 then some (kRes (rPutS (l.map KVersion.v) v.v)) else none
def G_regulatorref33_Read (_ : Nat) (l : List KVersion) (t : Int) : Option (List KVersion × Int) := if l.length ≤ 9223372036854775807 then some (kRes (rReadS (l.map KVersion.v) t)) else none
theorem ifs_some {α : Type} {c : Prop} [Decidable c] {x r : α} (h : (if c then some x else none) = some r) : c ∧ r = x := by
 split at h
 ·next hc => exact ⟨hc, (Option.some.inj h).symm⟩
 ·cases h
theorem vf_res {P : Program} {f : FuncId} {args : Array Value} {q : List Ver × Int} {S0 : Nat → Prop} {w0 : World} (h : Calls P f args w0 (RetVF w0 q)) :
  Calls P f args w0 fun e w' => ∃ A c l', (kRes q).1 = l' ∧ e = .returned (.tuple #[.slice A l'.length c, I (kRes q).2]) ∧ Below w0.heap.size w0 w' ∧ RowS (ext S0 w0 w') w' A (l'.flatMap KVersion.cells) ∧ l'.length ≤ c := by
 refine h.mono fun e w' hr => ?_
 obtain ⟨A, c, he, hl, _, hv, hf, hb⟩ := hr; refine ⟨A, c, _, rfl, ?_, hb, ⟨?_, fun hn => ?_⟩, ?_⟩
 ·show e = .returned (.tuple #[.slice A (q.1.map Ver.k).length c, I q.2])
  rw [List.length_map]; exact he
 ·show Rd w' A ((q.1.map Ver.k).flatMap KVersion.cells)
  rw [vk_cells]; exact hv
 ·have hn' : q.1.flatMap Ver.cells ≠ [] := by
   intro e0; apply hn
   show (q.1.map Ver.k).flatMap KVersion.cells = []
   rw [vk_cells]; exact e0
  obtain ⟨b, o, e1, hlt, _⟩ := (show Rd w' A (q.1.flatMap Ver.cells) from hv) hn'; exact ⟨b, o, e1, .inr ⟨hf _ e1, hlt⟩⟩
 ·show (q.1.map Ver.k).length ≤ c
  rw [List.length_map]; exact hl
section
variable (F : Nat) (A : Option Addr) (c : Nat) (l : List KVersion)
theorem vs_of (S0 : Nat → Prop) (w0 : World) (hr : RowS S0 w0 A (l.flatMap KVersion.cells)) : VS w0 A (l.map KVersion.v) := by
 show Rd w0 A ((l.map KVersion.v).flatMap Ver.cells)
 rw [kv_cells]; exact hr.r
theorem g_regulatorref33_Put (v : KVersion) (S0 : Nat → Prop) (w0 : World) (_ : ∀ g, S0 g → g < w0.heap.size) (_ : Tb w0) (hr : RowS S0 w0 A (l.flatMap KVersion.cells)) (hc : l.length ≤ c) (r : List KVersion × Int) (hG : G_regulatorref33_Put F l v = some r) : Calls Tryz.prog 59 #[.slice A l.length c, .agg #[I v.Key, I v.Ts, I v.Value, B v.Gone]] w0 fun e w' => ∃ A' c' l', r.1 = l' ∧ e = .returned (.tuple #[.slice A' l'.length c', I r.2]) ∧ Below w0.heap.size w0 w' ∧ RowS (ext S0 w0 w') w' A' (l'.flatMap KVersion.cells) ∧ l'.length ≤ c' := by
 obtain ⟨hn, rfl⟩ := ifs_some hG; have := rPut_fr A c (l.map KVersion.v) v.v w0 (by rw [List.length_map]; exact hn) (by rw [List.length_map]; exact hc) (vs_of A l S0 w0 hr); rw [List.length_map] at this; exact vf_res this
theorem g_regulatorref33_Read (t : Int) (S0 : Nat → Prop) (w0 : World) (_ : ∀ g, S0 g → g < w0.heap.size) (_ : Tb w0) (hr : RowS S0 w0 A (l.flatMap KVersion.cells)) (_ : l.length ≤ c) (r : List KVersion × Int) (hG : G_regulatorref33_Read F l t = some r) : Calls Tryz.prog 60 #[.slice A l.length c, I t] w0 fun e w' => ∃ A' c' l', r.1 = l' ∧ e = .returned (.tuple #[.slice A' l'.length c', I r.2]) ∧ Below w0.heap.size w0 w' ∧ RowS (ext S0 w0 w') w' A' (l'.flatMap KVersion.cells) ∧ l'.length ≤ c' := by
 obtain ⟨hn, rfl⟩ := ifs_some hG; have := rRead_fr A c (l.map KVersion.v) t w0 (by rw [List.length_map]; exact hn) (vs_of A l S0 w0 hr); rw [List.length_map] at this; exact vf_res this
end
end Go.Proofs.YtkchfmhgboiimaaGreat
namespace Go.Proofs.YtkchfmhgboiimaaGreat
def vsOf (l : List KTx) : List Ver := l.flatMap fun t => t.Writes.map fun w => ⟨w.Key, t.Ts, w.Value, w.Gone⟩
structure Txs (t : KTx) : Prop where
 id : 1 ≤ t.ID ∧ t.ID ≤ 1000000
 ts : 1 ≤ t.Ts ∧ t.Ts ≤ 3000000000000000
 few : t.Reads.length ≤ 8 ∧ t.Writes.length ≤ 8
 rd : ∀ s ∈ t.Reads, seenB s = true
 wr : ∀ w ∈ t.Writes, writB w = true
 ru : (t.Reads.map (·.Key)).Pairwise (· < ·)
 wu : (t.Writes.map (·.Key)).Pairwise (· < ·)
 rp : ∀ s ∈ t.Reads, 0 < s.Key
 wp : ∀ w ∈ t.Writes, 0 < w.Key
theorem txs_iff (t : KTx) : txS t = true ↔ Txs t := by
 unfold txS; simp only [Bool.and_eq_true, decide_eq_true_eq, List.all_eq_true, risF_iff, List.pairwise_cons, List.mem_map]; constructor
 ·rintro ⟨⟨⟨⟨⟨⟨⟨⟨⟨h1, h2⟩, h3⟩, h4⟩, h5⟩, h6⟩, h7⟩, h8⟩, h9, h10⟩, h11, h12⟩; exact ⟨⟨h1, h2⟩, ⟨h3, h4⟩, ⟨h5, h6⟩, h7, h8, h10, h12, fun s hs => h9 s.Key ⟨s, hs, rfl⟩, fun w hw => h11 w.Key ⟨w, hw, rfl⟩⟩
 ·intro h; refine ⟨⟨⟨⟨⟨⟨⟨⟨⟨h.id.1, h.id.2⟩, h.ts.1⟩, h.ts.2⟩, h.few.1⟩, h.few.2⟩, h.rd⟩, h.wr⟩, ?_, h.ru⟩, ?_, h.wu⟩
  ·rintro x ⟨s, hs, rfl⟩; exact h.rp s hs
  ·rintro x ⟨w, hw, rfl⟩; exact h.wp w hw
theorem logS_iff (l : List KTx) : logS l = true ↔ (∀ t ∈ l, Txs t) ∧ l.Pairwise (fun a b => a.Ts < b.Ts) := by
 unfold logS; simp only [Bool.and_eq_true, List.all_eq_true, risF_iff, List.pairwise_cons, txs_iff, List.pairwise_map]; exact ⟨fun h => ⟨h.1, h.2.2⟩, fun h => ⟨h.1, fun x hx => by obtain ⟨t, ht, rfl⟩ := List.mem_map.1 hx; have := (h.1 t ht).ts.1; omega, h.2⟩⟩
theorem vs_wf {t : KTx} (h : Txs t) {w : KWrite} (hw : w ∈ t.Writes) : wfB ⟨w.Key, t.Ts, w.Value, w.Gone⟩ = true := by
 have h1 := h.wr w hw; have h2 := h.wp w hw; have h3 := h.ts; unfold writB at h1; simp only [Bool.and_eq_true, Bool.or_eq_true, decide_eq_true_eq] at h1; rw [wfB_eq]; unfold keyB stampB; simp only [Bool.and_eq_true, Bool.or_eq_true, decide_eq_true_eq]; exact ⟨⟨⟨⟨⟨by omega, by omega⟩, by omega, by omega⟩, by omega⟩, by omega⟩, h1.2⟩
theorem ins_of {l : List KTx} (h : logS l = true) : Ins (vsOf l) := by
 obtain ⟨h1, h2⟩ := (logS_iff l).1 h; refine ⟨fun v hv => ?_, ?_⟩
 ·obtain ⟨t, ht, hv⟩ := List.mem_flatMap.1 hv; obtain ⟨w, hw, rfl⟩ := List.mem_map.1 hv; exact vs_wf (h1 t ht) hw
 ·unfold vsOf; rw [List.pairwise_flatMap]; refine ⟨fun t ht => ?_, h2.imp fun {a b} hab x hx y hy _ => ?_⟩
  ·rw [List.pairwise_map]; have := (h1 t ht).wu; rw [List.pairwise_map] at this; exact this.imp fun {a b} hab e => by simp only at e; omega
  ·obtain ⟨w, _, rfl⟩ := List.mem_map.1 hx; obtain ⟨u, _, rfl⟩ := List.mem_map.1 hy; exact hab
theorem vs_len {l : List KTx} (h : logS l = true) : (vsOf l).length ≤ l.length * 8 := by
 have h1 := ((logS_iff l).1 h).1; clear h; unfold vsOf
 induction l with
 | nil => simp
 | cons t l ih =>
  rw [List.flatMap_cons, List.length_append, List.length_map, List.length_cons]; have i1 := ih fun x hx => h1 x (List.mem_cons_of_mem _ hx)
  have i2 := (h1 t List.mem_cons_self).few.2; exact Nat.le_trans (Nat.add_le_add i2 i1) (by omega)
theorem vs_app (a b : List KTx) : vsOf (a ++ b) = vsOf a ++ vsOf b := by unfold vsOf; rw [List.flatMap_append]
def readC (log : List KTx) (t : Int) : List Ver × Int :=
 if (putsS [] (vsOf log)).2 = 0 then readS (putsS [] (vsOf log)).1 t else ([], (putsS [] (vsOf log)).2)
theorem readC_ok {log : List KTx} (h : logS log = true) (hl : log.length ≤ 500) (t : Int) : ∃ m, Sto m ∧ putsS [] (vsOf log) = (m, 0) ∧ readC log t = readS m t ∧ ∀ k u, atFold m k u = (vsOf log).foldl (stepV k u) Ver.zero := by
 obtain ⟨m, h1, h2, _, h4⟩ := puts_nil (ins_of h) (by have := vs_len h; omega); refine ⟨m, h2, h1, ?_, h4⟩; unfold readC; rw [h1]; rfl
end Go.Proofs.YtkchfmhgboiimaaGreat
namespace Go.Proofs.YtkchfmhgboiimaaGreat
open Go.RowKit Go.Maps
theorem z_regulatorref33_Put (F : Nat) (p_0_A : Option Addr) (p_0_c : Nat) (p_0 : List KVersion) (p_1 : KVersion) (r : (List KVersion) × Int) (hG : G_regulatorref33_Put F p_0 p_1 = some r) :
  Cn Tryz.prog 59 [.slice p_0_A p_0.length p_0_c, .agg #[I p_1.Key, I p_1.Ts, I p_1.Value, B p_1.Gone]] [RowC p_0_A p_0_c KVersion.cells tr p_0] (fun q : KSapi_VersionL => r.1 = q.l) (fun q => .tuple #[.slice q.A q.l.length q.c, I r.2]) (fun q => [RowC q.A q.c KVersion.cells tr q.l]) := fun S0 w0 hS hT h => (g_regulatorref33_Put F p_0_A p_0_c p_0 p_1 S0 w0 hS hT h.1.r h.1.c r hG).mono fun e w' ⟨A, c, l, hq, he, hb, hr, hc⟩ => ⟨⟨A, c, l⟩, hq, he, hb, ⟨hr, hc, fun _ _ => trivial⟩, trivial⟩
theorem z_regulatorref33_Read (F : Nat) (p_0_A : Option Addr) (p_0_c : Nat) (p_0 : List KVersion) (p_1 : Int) (r : (List KVersion) × Int) (hG : G_regulatorref33_Read F p_0 p_1 = some r) :
  Cn Tryz.prog 60 [.slice p_0_A p_0.length p_0_c, I p_1] [RowC p_0_A p_0_c KVersion.cells tr p_0] (fun q : KSapi_VersionL => r.1 = q.l) (fun q => .tuple #[.slice q.A q.l.length q.c, I r.2]) (fun q => [RowC q.A q.c KVersion.cells tr q.l]) := fun S0 w0 hS hT h => (g_regulatorref33_Read F p_0_A p_0_c p_0 p_1 S0 w0 hS hT h.1.r h.1.c r hG).mono fun e w' ⟨A, c, l, hq, he, hb, hr, hc⟩ => ⟨⟨A, c, l⟩, hq, he, hb, ⟨hr, hc, fun _ _ => trivial⟩, trivial⟩
end Go.Proofs.YtkchfmhgboiimaaGreat
