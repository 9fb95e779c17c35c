/-
  The walk of tree.Extended, whole.
-/
import Derived.Test.YtijnjgjpmgmifaaDoorEd
namespace Go.Proofs.YtijnjgjpmgmifaaDoor
open Go.RowKit
theorem growO_other {a : Int} {m n : Nat} {path : List Int} (h1 : 1 ≤ m) (hp : ¬isPow m) (hm : m < n) : growO pairF a m n true path = growO pairF a m n false path := by
  unfold growO
  rw [grow_other n a a m path h1 hp hm]
set_option maxHeartbeats 4000000 in
theorem ext_odd (a b : Int) (mm nn : Nat) (A : Option Addr) (c0 : Int) (ps : List Int) (pcap : Nat) (w : World) (hp : ps.length ≤ 1000) (hpc : ps.length + 1 ≤ pcap) (hm1 : 1 ≤ mm) (hmn : mm < nn) (hn : nn ≤ 4096) (hpow : ¬isPow mm) (h : KS .u64 w A (c0 :: ps)) :
    Calls Tryd.prog 22 #[.int .u64 a, .int .u64 b, .int .i64 (mm : Int), .int .i64 (nn : Int), .slice A (ps.length + 1) pcap] w fun e w' => e = .returned (.bool (decide (growO pairF a mm nn true (c0 :: ps) = some (a, b)))) ∧ Below w.heap.size w w' := by
  have q1 : decide ((nn : Int) < 1) = false := decide_eq_false (by omega)
  have q2 : decide (4096 < (nn : Int)) = false := decide_eq_false (by omega)
  have q3 : decide ((mm : Int) < 1) = false := decide_eq_false (by omega)
  have q4 : decide ((nn : Int) < mm) = false := decide_eq_false (by omega)
  have q5 : decide (nn < mm) = false := decide_eq_false (by omega)
  have q6 : ((mm : Int) == (nn : Int)) = false := by simp; omega
  have hb0 := and_pred hm1 (by omega)
  have hz0 : ¬(mm &&& (mm - 1) = 0) := fun e => hpow ((isPow_iff hm1 (by omega)).2 e)
  obtain ⟨z, hz⟩ : ∃ z, z = mm &&& (mm - 1) := ⟨_, rfl⟩
  rw [← hz] at hb0 hz0
  have q7 : ((z : Int) == 0) = false := by simp; omega
  rw [growO_other hm1 hpow hmn, grow_walk nn a c0 mm ps hm1 hmn]
  obtain ⟨res, hres⟩ : ∃ r, wlk frE flE (stripT (mm - 1) (nn - 1)).1 (stripT (mm - 1) (nn - 1)).2 (c0, c0) ps = r := ⟨_, rfl⟩
  have hres2 : wlk (fun s p => (pairF p s.1, pairF p s.2)) (fun s p => (s.1, pairF s.2 p)) (stripT (mm - 1) (nn - 1)).1 (stripT (mm - 1) (nn - 1)).2 (c0, c0) ps = res := hres
  rw [hres2]
  obtain ⟨pb, po, rfl, -, -⟩ := h.at_ (i := 0) (by simp)
  have HRES := hide hres
  have K := hide h
  have e1 := hide (show ((mm - 1 : Nat) : Int) = (mm : Int) - 1 by omega)
  have e2 := hide (show ((nn - 1 : Nat) : Int) = (nn : Int) - 1 by omega)
  have p1 : (0 : Int) ≤ (mm : Int) - 1 := by omega
  have p2 : (mm : Int) - 1 ≤ 5000 := by omega
  have p3 : (0 : Int) ≤ (nn : Int) - 1 := by omega
  have p4 : (nn : Int) - 1 ≤ 5000 := by omega
  have p5 : ((ps.length : Int) + 1 == 0) = false := by simp; omega
  have BX := hide (Below.refl w.heap.size w)
  have WW := hide (show W2 (w.alloc (.cells #[.int .u64 ((mm : Int) - 1), .int .u64 ((nn : Int) - 1)] 55)) w.heap.size (mm - 1) (nn - 1) by unfold W2; rw [e1.out, e2.out]; exact Blk.new w 55 #[.int .u64 ((mm : Int) - 1), .int .u64 ((nn : Int) - 1)])
  have BW := hide ((Below.refl w.heap.size w).alloc (Nat.le_refl _) (.cells #[.int .u64 ((mm : Int) - 1), .int .u64 ((nn : Int) - 1)] 55))
  clear hpow h hres hres2 hz
  go_enter Tryd.func22, Tryd.ntmps22
  go_wp2
  go_step3
  go_wp2_with fail
  go_loopw [] (fun wr => ∃ a' b' : Nat, W2 wr w.heap.size a' b' ∧ a' < 10000 ∧ stripT a' b' = stripT (mm - 1) (nn - 1) ∧ Below w.heap.size w wr) (fun wr => cellN wr w.heap.size)
  case atStart => exact ⟨mm - 1, nn - 1, WW.out, by omega, rfl, BW.out⟩
  case round =>
    clear WW BW
    obtain ⟨a', b', hw, ha', hst, hb⟩ := hrel
    have c0' : wr.cell? ⟨w.heap.size, 0, none⟩ = some (.int .u64 a') := hw.cell 0
    have c1' : wr.cell? ⟨w.heap.size, 1, none⟩ = some (.int .u64 b') := hw.cell 1
    have hbit := and1 a' ha'
    have HW := hide hw
    have HB := hide hb
    clear hw hb
    by_cases ho : a' % 2 = 1
    · rw [ho] at hbit
      have HS2 := hide (hst ▸ (stripT_odd (b := b') ho).symm : stripT (a' / 2) (b' / 2) = stripT (mm - 1) (nn - 1))
      have HU := hide fun W (hh : W2 W w.heap.size a' b') => up_any w.heap.size a' b' false W hh ha'
      have hpos : a' / 2 < a' := by omega
      clear hst ho
      go_wp2_with (go_at_call 37; refine (HU.out _ HW.out).mono ?_; rintro e w5 ⟨⟨_, rfl⟩, hw5, hg5⟩; have HB5 := hide (HB.out.grown hg5 HB.out.size (fun g hg => by injection hg with hg; omega)); have HW5 := hide hw5; clear hw5 hg5)
      go_roundw
      case rel => exact ⟨a' / 2, b' / 2, HW5.out, by omega, HS2.out, HB5.out⟩
      case measure => rw [cellN_eq HW.out, cellN_eq HW5.out]; exact hpos
    · rw [show a' % 2 = 0 by omega] at hbit
      rw [stripT_even (by omega)] at hst
      rw [← hst] at HRES
      have HRES := hide (show wlk frE flE a' b' (c0, c0) ps = res from HRES.out)
      rename World => wo
      have hw1 : IntKind.i64.wrap 1 = 1 := IntWalk.i64_in _ (by omega)
      have hw3 : (1 : Int) ≤ (ps.length : Int) + 1 := by omega
      rcases Decidable.em (pcap = 1) with hp1 | hp1
      all_goals
        obtain ⟨pb', po', hA, hbl, hc⟩ := (K.out.then_ HB.out).at_ (i := 0) (by simp)
        injection hA with hA
        injection hA with hA1 hA2
        subst hA1 hA2
        have c2' := hc 0 (by simp)
        rw [Nat.add_zero, List.getElem_cons_zero] at c2'
        have HC := hide hc
        clear hst ho hc
        go_wp2_with fail
        have n0 := fun x : Fut wo.heap.size wo => (x.cell pb po hbl).trans c2'
        refine wp_region_fut wo.heap.size (by kernel_rfl) (by kernel_rfl) ?_
        repeat (go_big_quiet_step ((first | fail)))
        refine wpQuiet_nil ?_
        intro w10 hq'; have hb10 := Fut.of hq'; clear hq'
        go_wp2_with fail
        go_step3
        go_wp2_with fail
        go_loopw [12, 13, 15, 80] (fun u12 u13 _ i wr => ∃ (k a2 b2 : Nat) (xv yv : Int), k ≤ ps.length ∧ i = .int .i64 k ∧ u12 = .int .u64 xv ∧ u13 = .int .u64 yv ∧ W2 wr w.heap.size a2 b2 ∧ a2 < 10000 ∧ wlk frE flE a2 b2 (xv, yv) (ps.drop k) = res ∧ Below w.heap.size w wr) (fun _ _ _ i _ => ps.length - (intOf i).toNat)
        case atStart => exact ⟨0, a', b', c0, c0, Nat.zero_le _, rfl, rfl, rfl, HW.out.below hb10 HW.out.lt, ha', HRES.out, HB.out.trans (hb10.mono HB.out.size)⟩
        case round =>
          clear HW HB HRES c0' c1' c2' hbit HC
          obtain ⟨k, a2, b2, xv, yv, hk, rfl, rfl, rfl, hw2, ha2, hwlk, hb2⟩ := hrel
          have c0' : wr.cell? ⟨w.heap.size, 0, none⟩ = some (.int .u64 a2) := hw2.cell 0
          have c1' : wr.cell? ⟨w.heap.size, 1, none⟩ = some (.int .u64 b2) := hw2.cell 1
          have HB := hide hb2
          by_cases hlt : k < ps.length
          · first
            | (exfalso; omega)
            | (have hc1 : ¬ pcap = 1 := by omega
               obtain ⟨pb', po', hA, hbl2, hc⟩ := (K.out.then_ HB.out).at_ (i := k + 1) (by simp; omega)
               injection hA with hA
               injection hA with hA1 hA2
               subst hA1 hA2
               have c2' := hc (k + 1) (by simp; omega)
               rw [List.getElem_cons_succ, show po + (k + 1) = po + 1 + k by omega] at c2'
               rw [List.drop_eq_getElem_cons hlt] at hwlk
               obtain ⟨p, hpp⟩ : ∃ p, p = ps[k] := ⟨_, rfl⟩
               rw [← hpp] at c2' hwlk
               have HW := hide hw2
               clear hc hpp hb2 hw2
               by_cases hz : b2 = 0
               · subst hz
                 rw [wlk_end] at hwlk
                 subst hwlk
                 go_wp2
                 repeat (rw [Exit.noGoto_ret])
                 go_ret
                 exact ⟨rfl, BX.out.trans (HB.out.mono BX.out.size)⟩
               · have qz : ((b2 : Int) == 0) = false := by simp; omega
                 rw [wlk_cons, if_neg hz] at hwlk
                 have HR := hide fun W (hh : W2 W w.heap.size a2 b2) => right_any w.heap.size a2 b2 W hh ha2
                 cases hr : isR a2 b2
                 · rw [hr] at HR hwlk
                   rw [if_neg (by simp)] at hwlk
                   have HL := hide hwlk
                   have HU := hide fun W (hh : W2 W w.heap.size a2 b2) => up_any w.heap.size a2 b2 false W hh ha2
                   clear hwlk hr
                   go_wp2_with (first
                                   | (go_at_call 36; refine (HR.out _ HW.out).mono ?_; rintro e w23 ⟨rfl, hb⟩; have HW := hide (HW.out.below hb HW.out.lt); have HB := hide (HB.out.trans (hb.mono HB.out.size)); clear hb)
                                   | (go_at_call 25; refine (pair_any _ _ _).mono ?_; rintro e w24 ⟨rfl, hb⟩; have HW := hide (HW.out.below hb HW.out.lt); have HB := hide (HB.out.trans (hb.mono HB.out.size)); clear hb)
                                   | (go_at_call 37; refine (HU.out _ HW.out).mono ?_; rintro e w25 ⟨⟨_, rfl⟩, hw5, hg5⟩; have HB5 := hide (HB.out.grown hg5 HB.out.size (fun g hg => by injection hg with hg; omega)); have HW5 := hide hw5; clear hw5 hg5))
                   go_roundw
                   case rel => exact ⟨k + 1, a2 / 2, b2 / 2, xv, pairF yv p, by omega, by go_num, rfl, rfl, HW5.out, by omega, HL.out, HB5.out⟩
                   case measure => simp [intOf]; omega
                 · rw [hr] at HR hwlk
                   rw [if_pos rfl] at hwlk
                   have HL := hide hwlk
                   have HU := hide fun W (hh : W2 W w.heap.size a2 b2) => up_any w.heap.size a2 b2 true W hh ha2
                   have hle := upT_le a2 a2 b2 (Nat.le_refl _)
                   clear hwlk hr
                   go_wp2_with (first
                                   | (go_at_call 36; refine (HR.out _ HW.out).mono ?_; rintro e w23 ⟨rfl, hb⟩; have HW := hide (HW.out.below hb HW.out.lt); have HB := hide (HB.out.trans (hb.mono HB.out.size)); clear hb)
                                   | (go_at_call 25; refine (pair_any _ _ _).mono ?_; rintro e w24 ⟨rfl, hb⟩; have HW := hide (HW.out.below hb HW.out.lt); have HB := hide (HB.out.trans (hb.mono HB.out.size)); clear hb)
                                   | (go_at_call 37; refine (HU.out _ HW.out).mono ?_; rintro e w25 ⟨⟨_, rfl⟩, hw5, hg5⟩; have HB5 := hide (HB.out.grown hg5 HB.out.size (fun g hg => by injection hg with hg; omega)); have HW5 := hide hw5; clear hw5 hg5))
                   go_roundw
                   case rel => exact ⟨k + 1, (upT a2 b2).1, (upT a2 b2).2, pairF p xv, pairF p yv, by omega, by go_num, rfl, rfl, HW5.out, by omega, HL.out, HB5.out⟩
                   case measure => simp [intOf]; omega)
          · have hd : ps.drop k = [] := List.drop_eq_nil_of_le (by omega)
            rw [hd] at hwlk
            clear hw2 hb2
            by_cases hz : b2 = 0
            · subst hz
              rw [wlk_nil0] at hwlk
              subst hwlk
              have HE := hide (show decide (some (xv, yv) = some (a, b)) = ((xv == a) && (yv == b)) by rw [Bool.eq_iff_iff]; simp)
              have HF := hide (BX.out.trans (HB.out.mono BX.out.size))
              cases hq : (xv == a)
              · go_wp2
                repeat (rw [Exit.noGoto_ret])
                go_ret
                exact ⟨by rw [HE.out, hq]; rfl, HF.out⟩
              · go_wp2
                repeat (rw [Exit.noGoto_ret])
                go_ret
                exact ⟨by rw [HE.out, hq]; rfl, HF.out⟩
            · have qz : ((b2 : Int) == 0) = false := by simp; omega
              rw [wlk_nil hz] at hwlk
              subst hwlk
              have HF := hide (BX.out.trans (HB.out.mono BX.out.size))
              go_wp2
              repeat (rw [Exit.noGoto_ret])
              go_ret
              exact ⟨rfl, HF.out⟩
theorem ext_none (a b : Int) (mm nn : Nat) (A : Option Addr) (pcap : Nat) (w : World) (hm1 : 1 ≤ mm) (hmn : mm < nn) (hn : nn ≤ 4096) (hpow : ¬isPow mm) :
    Calls Tryd.prog 22 #[.int .u64 a, .int .u64 b, .int .i64 (mm : Int), .int .i64 (nn : Int), .slice A 0 pcap] w fun e w' => e = .returned (.bool false) ∧ Below w.heap.size w w' := by
  have q1 : decide ((nn : Int) < 1) = false := decide_eq_false (by omega)
  have q2 : decide (4096 < (nn : Int)) = false := decide_eq_false (by omega)
  have q3 : decide ((mm : Int) < 1) = false := decide_eq_false (by omega)
  have q4 : decide ((nn : Int) < mm) = false := decide_eq_false (by omega)
  have q5 : decide (nn < mm) = false := decide_eq_false (by omega)
  have q6 : ((mm : Int) == (nn : Int)) = false := by simp; omega
  have hb0 := and_pred hm1 (by omega)
  have hz0 : ¬(mm &&& (mm - 1) = 0) := fun e => hpow ((isPow_iff hm1 (by omega)).2 e)
  obtain ⟨z, hz⟩ : ∃ z, z = mm &&& (mm - 1) := ⟨_, rfl⟩
  rw [← hz] at hb0 hz0
  have q7 : ((z : Int) == 0) = false := by simp; omega
  have p1 : (0 : Int) ≤ (mm : Int) - 1 := by omega
  have p2 : (mm : Int) - 1 ≤ 5000 := by omega
  clear hpow hz
  go_enter Tryd.func22, Tryd.ntmps22
  go_wp2
  go_step3
  go_wp2
  repeat (rw [Exit.noGoto_ret])
  go_ret
  exact ⟨rfl, Below.refl _ _⟩
theorem ext_same (a b : Int) (nn : Nat) (A : Option Addr) (n c : Nat) (w : World) (hn1 : 1 ≤ nn) (hn : nn ≤ 4096) :
    Calls Tryd.prog 22 #[.int .u64 a, .int .u64 b, .int .i64 (nn : Int), .int .i64 (nn : Int), .slice A n c] w fun e w' => e = .returned (.bool (decide (n = 0) && (a == b))) ∧ Below w.heap.size w w' := by
  have q1 : decide ((nn : Int) < 1) = false := decide_eq_false (by omega)
  have q2 : decide (4096 < (nn : Int)) = false := decide_eq_false (by omega)
  by_cases h0 : n = 0
  · subst h0
    rw [decide_eq_true rfl, Bool.true_and]
    go_enter Tryd.func22, Tryd.ntmps22
    go_wp2
    go_step3
    go_wp2
    repeat (rw [Exit.noGoto_ret])
    go_ret
    exact ⟨rfl, Below.refl _ _⟩
  · rw [decide_eq_false h0, Bool.false_and]
    have q0 : ((n : Int) == 0) = false := by simp; omega
    clear h0
    go_enter Tryd.func22, Tryd.ntmps22
    go_wp2
    go_step3
    go_wp2
    repeat (rw [Exit.noGoto_ret])
    go_ret
    exact ⟨rfl, Below.refl _ _⟩
theorem Extended_any (a b m n : Int) (A : Option Addr) (c : Nat) (path : List Int) (w : World) (hp : path.length ≤ 1000) (hc : path.length ≤ c) (h : KS .u64 w A path) :
    Calls Tryd.prog 22 #[.int .u64 a, .int .u64 b, .int .i64 m, .int .i64 n, .slice A path.length c] w fun e w' => e = .returned (.bool (growS a b m n path)) ∧ Below w.heap.size w w' := by
  by_cases hbad : n < 1 ∨ 4096 < n ∨ m < 1 ∨ n < m
  · have hr : growS a b m n path = false := if_pos hbad
    rw [hr]
    have hcase : decide (n < 1) = true ∨ decide (n < 1) = false ∧ decide (4096 < n) = true ∨ decide (n < 1) = false ∧ decide (4096 < n) = false ∧ decide (m < 1) = true ∨ decide (n < 1) = false ∧ decide (4096 < n) = false ∧ decide (m < 1) = false ∧ decide (n < m) = true := by
      simp only [decide_eq_true_eq, decide_eq_false_iff_not]; omega
    clear hr hbad
    rcases hcase with q1 | ⟨q1, q2⟩ | ⟨q1, q2, q3⟩ | ⟨q1, q2, q3, q4⟩
    all_goals
      go_enter Tryd.func22, Tryd.ntmps22
      go_wp2
      go_step3
      go_wp2
      repeat (rw [Exit.noGoto_ret])
      go_ret
      exact ⟨rfl, Below.refl _ _⟩
  · obtain ⟨mm, rfl⟩ : ∃ j : Nat, m = j := ⟨m.toNat, by omega⟩
    obtain ⟨nn, rfl⟩ : ∃ j : Nat, n = j := ⟨n.toNat, by omega⟩
    have hr : growS a b mm nn path = decide (growO pairF a mm nn true path = some (a, b)) := if_neg hbad
    rw [hr]
    by_cases he : mm = nn
    · subst he
      have := ext_same a b mm A path.length c w (by omega) (by omega)
      rw [growO_mark]
      have e : decide ((if path = [] then some (a, a) else none) = some (a, b)) = (decide (path.length = 0) && (a == b)) := by
        rw [Bool.eq_iff_iff]
        cases path <;> simp
      rw [e]
      exact this
    · by_cases hpow : isPow mm
      · exact ext_pow a b mm nn A c path w hp (by omega) (by omega) (by omega) hpow h
      · cases path with
        | nil =>
          have := ext_none a b mm nn A c w (by omega) (by omega) (by omega) hpow
          rw [growO_nil (by omega)]
          exact this
        | cons c0 ps =>
          exact ext_odd a b mm nn A c0 ps c w (by simp at hp; omega) (by simpa using hc) (by omega) (by omega) (by omega) hpow h
end Go.Proofs.YtijnjgjpmgmifaaDoor
