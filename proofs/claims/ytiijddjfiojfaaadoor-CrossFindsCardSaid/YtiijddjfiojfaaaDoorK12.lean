/-
  Texts joined: Ed, Ee, Ra, Rl, Ri, Rx, Ht, Dy, Dz, Zh, Z0, Z1, Z2, Z3.
-/
import Derived.Deep.RegionHeld3
import Derived.Test.YtiijddjfiojfaaaDoorProg
import Derived.Test.YtiijddjfiojfaaaDoorK10
import Derived.Test.YtiijddjfiojfaaaDoorK11
namespace Go.Proofs.YtiijddjfiojfaaaDoor
open Go.RowKit
set_option maxRecDepth 100000 in
theorem wrapsI63 (n : Int) (h₀ : 0 ≤ n) (h₁ : n < 2 ^ 63) : IntKind.i64.wrap n = n := IntWalk.i64_in _ (by omega)
set_option maxRecDepth 100000 in
theorem pow_bits0 : ∀ i < 65, ∀ j < 64, 1 ≤ 64 * i + j → (((64 * i + j) &&& (64 * i + j - 1) = 0) ↔ 64 * i + j = 2 ^ Nat.log2 (64 * i + j)) := by decide +kernel
set_option maxRecDepth 100000 in
theorem pow_bits (m : Nat) (h : m < 4097) (h1 : 1 ≤ m) : (m &&& (m - 1) = 0) ↔ m = 2 ^ Nat.log2 m := by
 have := pow_bits0 (m / 64) (by omega) (m % 64) (by omega); rw [Nat.div_add_mod] at this; exact this h1
set_option maxRecDepth 100000 in
theorem isPow_iff {m : Nat} (h1 : 1 ≤ m) (h : m ≤ 4096) : isPow m ↔ m &&& (m - 1) = 0 := by
 rw [pow_bits m (by omega) h1]; constructor
 ·rintro ⟨e, rfl⟩; rw [Nat.log2_two_pow]
 ·intro h; exact ⟨_, h⟩
set_option maxRecDepth 100000 in
theorem and_pred {m : Nat} (h1 : 1 ≤ m) (h : m ≤ 4096) : bits .and .i64 (m : Int) ((m : Int) - 1) = ((m &&& (m - 1) : Nat) : Int) := by
 have := (bits_nat .i64 63 (by decide) wrapsI63 m (m - 1) (by omega) (by omega)).1; rw [← this]
 congr 1
 omega
set_option maxRecDepth 100000 in
theorem OwnK.blk_lt {k : IntKind} {e : TypeId} {w : World} {base n c : Nat} {A : Option Addr} {l : List Int} (h : OwnK k e w base (.slice A n c) l) : ∀ a, A = some a → a.block < w.heap.size := by
 rintro a rfl; rcases h.2 with ⟨hv, _⟩ | ⟨g, cap, cur, hv, hg, hh, _⟩
 ·injection hv with e1; cases e1
 ·injection hv with e1
  injection e1 with e1
  subst e1; exact (Array.getElem?_eq_some_iff.1 hh).1
def frE (s : Int × Int) (p : Int) : Int × Int := (pairF p s.1, pairF p s.2)
def flE (s : Int × Int) (p : Int) : Int × Int := (s.1, pairF s.2 p)
def growS (a b m n : Int) (path : List Int) : Bool := if n < 1 ∨ 4096 < n ∨ m < 1 ∨ n < m then false else decide (growO pairF a m.toNat n.toNat true path = some (a, b))
set_option maxRecDepth 100000 in
set_option maxHeartbeats 4000000 in
theorem ext_pow (a b : Int) (mm nn : Nat) (A : Option Addr) (c : Nat) (path : List Int) (w : World) (hp : path.length ≤ 1000) (hm1 : 1 ≤ mm) (hmn : mm < nn) (hn : nn ≤ 4096) (hpow : isPow mm) (h : KS .u64 w A path) :
    Calls Tryd.prog 21 #[.int .u64 a, .int .u64 b, .int .i64 (mm : Int), .int .i64 (nn : Int), .slice A path.length c] w fun e w' => e = .returned (.bool (decide (growO pairF a mm nn true path = some (a, b)))) ∧ Below w.heap.size w w' := by
  have q1 : decide ((nn : Int) < 1) = false := decide_eq_false (by omega)
  have q2 : decide (4096 < (nn : Int)) = false := decide_eq_false (by omega)
  have q3 : decide ((mm : Int) < 1) = false := decide_eq_false (by omega)
  have q4 : decide ((nn : Int) < mm) = false := decide_eq_false (by omega)
  have q5 : decide (nn < mm) = false := decide_eq_false (by omega)
  have q6 : ((mm : Int) == (nn : Int)) = false := by simp; omega
  have hb0 := and_pred hm1 (by omega)
  rw [(isPow_iff hm1 (by omega)).1 hpow] at hb0
  rw [grow_pow nn a mm path hpow hmn, grow_walk nn a a mm path hm1 hmn]
  obtain ⟨res, hres⟩ : ∃ r, wlk frE flE (stripT (mm - 1) (nn - 1)).1 (stripT (mm - 1) (nn - 1)).2 (a, a) path = r := ⟨_, rfl⟩
  have hres2 : wlk (fun s p => (pairF p s.1, pairF p s.2)) (fun s p => (s.1, pairF s.2 p)) (stripT (mm - 1) (nn - 1)).1 (stripT (mm - 1) (nn - 1)).2 (a, a) path = res := hres
  rw [hres2]
  have HRES := hide hres
  have K0 := hide h
  have CL := hide fun W (s : KS .u64 W A path) => cloneK_any A c path W (by omega) s
  have e1 := hide (show ((mm - 1 : Nat) : Int) = (mm : Int) - 1 by omega)
  have e2 := hide (show ((nn - 1 : Nat) : Int) = (nn : Int) - 1 by omega)
  have p1 : (0 : Int) ≤ (mm : Int) - 1 := by omega
  have p2 : (mm : Int) - 1 ≤ 5000 := by omega
  have p3 : (0 : Int) ≤ (nn : Int) - 1 := by omega
  have p4 : (nn : Int) - 1 ≤ 5000 := by omega
  have p5 : ((path.length : Int) + 1 == 0) = false := by simp; omega
  clear hpow h hres hres2
  go_enter Tryd.func21, Tryd.ntmps21
  go_wp2
  go_step3
  go_upto_region 9 with (first
    | (go_at_call 46; with_reducible refine (CL.out _ K0.out).mono ?_; rintro e w2 ⟨v2, rfl, ho, hb⟩; obtain ⟨A2, c2, rfl, hl2, hm2, -⟩ := OwnK.form ho; have BX := hide hb; have HO := hide ho; have hs2 := hb.size; have HLT := hide ho.blk_lt; clear ho hb)
    | (go_at_call 45; with_reducible refine (insertK_any A2 c2 path a w2.heap.size w.heap.size _ (HO.out.below ((Below.refl _ _).alloc (Nat.le_refl _) _)) (by simp; omega) (by omega) (Blk.new _ _ _) ?_).mono ?_))
  · rintro x rfl
    have := HLT.out x rfl
    omega
  rintro e w3 ⟨v3, rfl, ho3, hb3⟩
  obtain ⟨A3, pcap, rfl, hl3, hm3, hk3⟩ := ho3.form
  obtain ⟨pb, po, rfl, -, -⟩ := hk3.at_ (i := 0) (by simp)
  have hpc : path.length + 1 ≤ pcap := hl3
  have BX := hide ((BX.out.alloc hs2 (.cells #[.int .u64 a] 25)).trans hb3)
  have K := hide hk3
  have WW := hide (show W2 (w3.alloc (.cells #[.int .u64 ((mm : Int) - 1), .int .u64 ((nn : Int) - 1)] 97)) w3.heap.size (mm - 1) (nn - 1) by unfold W2; rw [e1.out, e2.out]; exact Blk.new w3 97 #[.int .u64 ((mm : Int) - 1), .int .u64 ((nn : Int) - 1)])
  have BW := hide ((Below.refl w3.heap.size w3).alloc (Nat.le_refl _) (.cells #[.int .u64 ((mm : Int) - 1), .int .u64 ((nn : Int) - 1)] 97))
  clear ho3 hb3 hk3 HO HLT K0 CL hl3
  go_wp2_with fail
  go_loopw [] (fun wr => ∃ a' b' : Nat, W2 wr w3.heap.size a' b' ∧ a' < 10000 ∧ stripT a' b' = stripT (mm - 1) (nn - 1) ∧ Below w3.heap.size w3 wr) (fun wr => cellN wr w3.heap.size)
  case atStart => exact ⟨mm - 1, nn - 1, WW.out, by omega, rfl, BW.out⟩
  case round =>
    clear WW BW
    obtain ⟨a', b', hw, ha', hst, hb⟩ := hrel
    have c0' : wr.cell? ⟨w3.heap.size, 0, none⟩ = some (.int .u64 a') := hw.cell 0
    have c1' : wr.cell? ⟨w3.heap.size, 1, none⟩ = some (.int .u64 b') := hw.cell 1
    have hbit := and1 a' ha'
    have HW := hide hw
    have HB := hide hb
    clear hw hb
    by_cases ho : a' % 2 = 1
    · rw [ho] at hbit
      have HS2 := hide (hst ▸ (stripT_odd (b := b') ho).symm : stripT (a' / 2) (b' / 2) = stripT (mm - 1) (nn - 1))
      have HU := hide fun W (hh : W2 W w3.heap.size a' b') => up_any w3.heap.size a' b' false W hh ha'
      have hpos : a' / 2 < a' := by omega
      clear hst ho
      go_wp2_with (go_at_call 47; refine (HU.out _ HW.out).mono ?_; rintro e w5 ⟨⟨_, rfl⟩, hw5, hg5⟩; have HB5 := hide (HB.out.grown hg5 HB.out.size (fun g hg => by injection hg with hg; omega)); have HW5 := hide hw5; clear hw5 hg5)
      go_roundw
      case rel => exact ⟨a' / 2, b' / 2, HW5.out, by omega, HS2.out, HB5.out⟩
      case measure => rw [cellN_eq HW.out, cellN_eq HW5.out]; exact hpos
    · rw [show a' % 2 = 0 by omega] at hbit
      rw [stripT_even (by omega)] at hst
      rw [← hst] at HRES
      have HRES := hide (show wlk frE flE a' b' (a, a) path = res from HRES.out)
      rename World => wo
      have hw1 : IntKind.i64.wrap 1 = 1 := IntWalk.i64_in _ (by omega)
      have hw3 : (1 : Int) ≤ (path.length : Int) + 1 := by omega
      rcases Decidable.em (pcap = 1) with hp1 | hp1
      all_goals
        obtain ⟨pb', po', hA, hbl, hc⟩ := (K.out.then_ HB.out).at_ (i := 0) (by simp)
        injection hA with hA
        injection hA with hA1 hA2
        subst hA1 hA2
        have c2' := hc 0 (by simp)
        rw [Nat.add_zero, List.getElem_cons_zero] at c2'
        have HC := hide hc
        clear hst ho hc
        go_wp2_with fail
        have n0 := fun x : Fut wo.heap.size wo => (x.cell pb po hbl).trans c2'
        refine wp_region_fut wo.heap.size (by kernel_rfl) (by kernel_rfl) ?_
        repeat (go_big_quiet_step ((first | fail)))
        refine wpQuiet_nil ?_
        intro w10 hq'; have hb10 := Fut.of hq'; clear hq'
        go_wp2_with fail
        go_step3
        go_wp2_with fail
        go_loopw [12, 13, 15, 80] (fun u12 u13 _ i wr => ∃ (k a2 b2 : Nat) (xv yv : Int), k ≤ path.length ∧ i = .int .i64 k ∧ u12 = .int .u64 xv ∧ u13 = .int .u64 yv ∧ W2 wr w3.heap.size a2 b2 ∧ a2 < 10000 ∧ wlk frE flE a2 b2 (xv, yv) (path.drop k) = res ∧ Below w3.heap.size w3 wr) (fun _ _ _ i _ => path.length - (intOf i).toNat)
        case atStart => exact ⟨0, a', b', a, a, Nat.zero_le _, rfl, rfl, rfl, HW.out.below hb10 HW.out.lt, ha', HRES.out, HB.out.trans (hb10.mono HB.out.size)⟩
        case round =>
          clear HW HB HRES c0' c1' c2' hbit HC
          obtain ⟨k, a2, b2, xv, yv, hk, rfl, rfl, rfl, hw2, ha2, hwlk, hb2⟩ := hrel
          have c0' : wr.cell? ⟨w3.heap.size, 0, none⟩ = some (.int .u64 a2) := hw2.cell 0
          have c1' : wr.cell? ⟨w3.heap.size, 1, none⟩ = some (.int .u64 b2) := hw2.cell 1
          have HB := hide hb2
          by_cases hlt : k < path.length
          · first
            | (exfalso; omega)
            | (have hc1 : ¬ pcap = 1 := by omega
               obtain ⟨pb', po', hA, hbl2, hc⟩ := (K.out.then_ HB.out).at_ (i := k + 1) (by simp; omega)
               injection hA with hA
               injection hA with hA1 hA2
               subst hA1 hA2
               have c2' := hc (k + 1) (by simp; omega)
               rw [List.getElem_cons_succ, show po + (k + 1) = po + 1 + k by omega] at c2'
               rw [List.drop_eq_getElem_cons hlt] at hwlk
               obtain ⟨p, hpp⟩ : ∃ p, p = path[k] := ⟨_, rfl⟩
               rw [← hpp] at c2' hwlk
               have HW := hide hw2
               clear hc hpp hb2 hw2
               by_cases hz : b2 = 0
               · subst hz
                 rw [wlk_end] at hwlk
                 subst hwlk
                 go_wp2
                 repeat (rw [Exit.noGoto_ret])
                 go_ret
                 exact ⟨rfl, BX.out.trans (HB.out.mono BX.out.size)⟩
               · have qz : ((b2 : Int) == 0) = false := by simp; omega
                 rw [wlk_cons, if_neg hz] at hwlk
                 have HR := hide fun W (hh : W2 W w3.heap.size a2 b2) => right_any w3.heap.size a2 b2 W hh ha2
                 cases hr : isR a2 b2
                 · rw [hr] at HR hwlk
                   rw [if_neg (by simp)] at hwlk
                   have HL := hide hwlk
                   have HU := hide fun W (hh : W2 W w3.heap.size a2 b2) => up_any w3.heap.size a2 b2 false W hh ha2
                   clear hwlk hr
                   go_wp2_with (first
                                   | (go_at_call 48; refine (HR.out _ HW.out).mono ?_; rintro e w23 ⟨rfl, hb⟩; have HW := hide (HW.out.below hb HW.out.lt); have HB := hide (HB.out.trans (hb.mono HB.out.size)); clear hb)
                                   | (go_at_call 49; refine (pair_any _ _ _).mono ?_; rintro e w24 ⟨rfl, hb⟩; have HW := hide (HW.out.below hb HW.out.lt); have HB := hide (HB.out.trans (hb.mono HB.out.size)); clear hb)
                                   | (go_at_call 47; refine (HU.out _ HW.out).mono ?_; rintro e w25 ⟨⟨_, rfl⟩, hw5, hg5⟩; have HB5 := hide (HB.out.grown hg5 HB.out.size (fun g hg => by injection hg with hg; omega)); have HW5 := hide hw5; clear hw5 hg5))
                   go_roundw
                   case rel => exact ⟨k + 1, a2 / 2, b2 / 2, xv, pairF yv p, by omega, by go_num, rfl, rfl, HW5.out, by omega, HL.out, HB5.out⟩
                   case measure => simp [intOf]; omega
                 · rw [hr] at HR hwlk
                   rw [if_pos rfl] at hwlk
                   have HL := hide hwlk
                   have HU := hide fun W (hh : W2 W w3.heap.size a2 b2) => up_any w3.heap.size a2 b2 true W hh ha2
                   have hle := upT_le a2 a2 b2 (Nat.le_refl _)
                   clear hwlk hr
                   go_wp2_with (first
                                   | (go_at_call 48; refine (HR.out _ HW.out).mono ?_; rintro e w23 ⟨rfl, hb⟩; have HW := hide (HW.out.below hb HW.out.lt); have HB := hide (HB.out.trans (hb.mono HB.out.size)); clear hb)
                                   | (go_at_call 49; refine (pair_any _ _ _).mono ?_; rintro e w24 ⟨rfl, hb⟩; have HW := hide (HW.out.below hb HW.out.lt); have HB := hide (HB.out.trans (hb.mono HB.out.size)); clear hb)
                                   | (go_at_call 47; refine (HU.out _ HW.out).mono ?_; rintro e w25 ⟨⟨_, rfl⟩, hw5, hg5⟩; have HB5 := hide (HB.out.grown hg5 HB.out.size (fun g hg => by injection hg with hg; omega)); have HW5 := hide hw5; clear hw5 hg5))
                   go_roundw
                   case rel => exact ⟨k + 1, (upT a2 b2).1, (upT a2 b2).2, pairF p xv, pairF p yv, by omega, by go_num, rfl, rfl, HW5.out, by omega, HL.out, HB5.out⟩
                   case measure => simp [intOf]; omega)
          · have hd : path.drop k = [] := List.drop_eq_nil_of_le (by omega)
            rw [hd] at hwlk
            clear hw2 hb2
            by_cases hz : b2 = 0
            · subst hz
              rw [wlk_nil0] at hwlk
              subst hwlk
              have HE := hide (show decide (some (xv, yv) = some (a, b)) = ((xv == a) && (yv == b)) by rw [Bool.eq_iff_iff]; simp)
              have HF := hide (BX.out.trans (HB.out.mono BX.out.size))
              cases hq : (xv == a)
              · go_wp2
                repeat (rw [Exit.noGoto_ret])
                go_ret
                exact ⟨by rw [HE.out, hq]; rfl, HF.out⟩
              · go_wp2
                repeat (rw [Exit.noGoto_ret])
                go_ret
                exact ⟨by rw [HE.out, hq]; rfl, HF.out⟩
            · have qz : ((b2 : Int) == 0) = false := by simp; omega
              rw [wlk_nil hz] at hwlk
              subst hwlk
              have HF := hide (BX.out.trans (HB.out.mono BX.out.size))
              go_wp2
              repeat (rw [Exit.noGoto_ret])
              go_ret
              exact ⟨rfl, HF.out⟩
end Go.Proofs.YtiijddjfiojfaaaDoor
namespace Go.Proofs.YtiijddjfiojfaaaDoor
open Go.RowKit
set_option maxRecDepth 100000 in
theorem growO_other {a : Int} {m n : Nat} {path : List Int} (h1 : 1 ≤ m) (hp : ¬isPow m) (hm : m < n) : growO pairF a m n true path = growO pairF a m n false path := by
 unfold growO; rw [grow_other n a a m path h1 hp hm]
set_option maxRecDepth 100000 in
set_option maxHeartbeats 4000000 in
theorem ext_odd (a b : Int) (mm nn : Nat) (A : Option Addr) (c0 : Int) (ps : List Int) (pcap : Nat) (w : World) (hp : ps.length ≤ 1000) (hpc : ps.length + 1 ≤ pcap) (hm1 : 1 ≤ mm) (hmn : mm < nn) (hn : nn ≤ 4096) (hpow : ¬isPow mm) (h : KS .u64 w A (c0 :: ps)) :
    Calls Tryd.prog 21 #[.int .u64 a, .int .u64 b, .int .i64 (mm : Int), .int .i64 (nn : Int), .slice A (ps.length + 1) pcap] w fun e w' => e = .returned (.bool (decide (growO pairF a mm nn true (c0 :: ps) = some (a, b)))) ∧ Below w.heap.size w w' := by
  have q1 : decide ((nn : Int) < 1) = false := decide_eq_false (by omega)
  have q2 : decide (4096 < (nn : Int)) = false := decide_eq_false (by omega)
  have q3 : decide ((mm : Int) < 1) = false := decide_eq_false (by omega)
  have q4 : decide ((nn : Int) < mm) = false := decide_eq_false (by omega)
  have q5 : decide (nn < mm) = false := decide_eq_false (by omega)
  have q6 : ((mm : Int) == (nn : Int)) = false := by simp; omega
  have hb0 := and_pred hm1 (by omega)
  have hz0 : ¬(mm &&& (mm - 1) = 0) := fun e => hpow ((isPow_iff hm1 (by omega)).2 e)
  obtain ⟨z, hz⟩ : ∃ z, z = mm &&& (mm - 1) := ⟨_, rfl⟩
  rw [← hz] at hb0 hz0
  have q7 : ((z : Int) == 0) = false := by simp; omega
  rw [growO_other hm1 hpow hmn, grow_walk nn a c0 mm ps hm1 hmn]
  obtain ⟨res, hres⟩ : ∃ r, wlk frE flE (stripT (mm - 1) (nn - 1)).1 (stripT (mm - 1) (nn - 1)).2 (c0, c0) ps = r := ⟨_, rfl⟩
  have hres2 : wlk (fun s p => (pairF p s.1, pairF p s.2)) (fun s p => (s.1, pairF s.2 p)) (stripT (mm - 1) (nn - 1)).1 (stripT (mm - 1) (nn - 1)).2 (c0, c0) ps = res := hres
  rw [hres2]
  obtain ⟨pb, po, rfl, -, -⟩ := h.at_ (i := 0) (by simp)
  have HRES := hide hres
  have K := hide h
  have e1 := hide (show ((mm - 1 : Nat) : Int) = (mm : Int) - 1 by omega)
  have e2 := hide (show ((nn - 1 : Nat) : Int) = (nn : Int) - 1 by omega)
  have p1 : (0 : Int) ≤ (mm : Int) - 1 := by omega
  have p2 : (mm : Int) - 1 ≤ 5000 := by omega
  have p3 : (0 : Int) ≤ (nn : Int) - 1 := by omega
  have p4 : (nn : Int) - 1 ≤ 5000 := by omega
  have p5 : ((ps.length : Int) + 1 == 0) = false := by simp; omega
  have BX := hide (Below.refl w.heap.size w)
  have WW := hide (show W2 (w.alloc (.cells #[.int .u64 ((mm : Int) - 1), .int .u64 ((nn : Int) - 1)] 97)) w.heap.size (mm - 1) (nn - 1) by unfold W2; rw [e1.out, e2.out]; exact Blk.new w 97 #[.int .u64 ((mm : Int) - 1), .int .u64 ((nn : Int) - 1)])
  have BW := hide ((Below.refl w.heap.size w).alloc (Nat.le_refl _) (.cells #[.int .u64 ((mm : Int) - 1), .int .u64 ((nn : Int) - 1)] 97))
  clear hpow h hres hres2 hz
  go_enter Tryd.func21, Tryd.ntmps21
  go_wp2
  go_step3
  go_wp2_with fail
  go_loopw [] (fun wr => ∃ a' b' : Nat, W2 wr w.heap.size a' b' ∧ a' < 10000 ∧ stripT a' b' = stripT (mm - 1) (nn - 1) ∧ Below w.heap.size w wr) (fun wr => cellN wr w.heap.size)
  case atStart => exact ⟨mm - 1, nn - 1, WW.out, by omega, rfl, BW.out⟩
  case round =>
    clear WW BW
    obtain ⟨a', b', hw, ha', hst, hb⟩ := hrel
    have c0' : wr.cell? ⟨w.heap.size, 0, none⟩ = some (.int .u64 a') := hw.cell 0
    have c1' : wr.cell? ⟨w.heap.size, 1, none⟩ = some (.int .u64 b') := hw.cell 1
    have hbit := and1 a' ha'
    have HW := hide hw
    have HB := hide hb
    clear hw hb
    by_cases ho : a' % 2 = 1
    · rw [ho] at hbit
      have HS2 := hide (hst ▸ (stripT_odd (b := b') ho).symm : stripT (a' / 2) (b' / 2) = stripT (mm - 1) (nn - 1))
      have HU := hide fun W (hh : W2 W w.heap.size a' b') => up_any w.heap.size a' b' false W hh ha'
      have hpos : a' / 2 < a' := by omega
      clear hst ho
      go_wp2_with (go_at_call 47; refine (HU.out _ HW.out).mono ?_; rintro e w5 ⟨⟨_, rfl⟩, hw5, hg5⟩; have HB5 := hide (HB.out.grown hg5 HB.out.size (fun g hg => by injection hg with hg; omega)); have HW5 := hide hw5; clear hw5 hg5)
      go_roundw
      case rel => exact ⟨a' / 2, b' / 2, HW5.out, by omega, HS2.out, HB5.out⟩
      case measure => rw [cellN_eq HW.out, cellN_eq HW5.out]; exact hpos
    · rw [show a' % 2 = 0 by omega] at hbit
      rw [stripT_even (by omega)] at hst
      rw [← hst] at HRES
      have HRES := hide (show wlk frE flE a' b' (c0, c0) ps = res from HRES.out)
      rename World => wo
      have hw1 : IntKind.i64.wrap 1 = 1 := IntWalk.i64_in _ (by omega)
      have hw3 : (1 : Int) ≤ (ps.length : Int) + 1 := by omega
      rcases Decidable.em (pcap = 1) with hp1 | hp1
      all_goals
        obtain ⟨pb', po', hA, hbl, hc⟩ := (K.out.then_ HB.out).at_ (i := 0) (by simp)
        injection hA with hA
        injection hA with hA1 hA2
        subst hA1 hA2
        have c2' := hc 0 (by simp)
        rw [Nat.add_zero, List.getElem_cons_zero] at c2'
        have HC := hide hc
        clear hst ho hc
        go_wp2_with fail
        have n0 := fun x : Fut wo.heap.size wo => (x.cell pb po hbl).trans c2'
        refine wp_region_fut wo.heap.size (by kernel_rfl) (by kernel_rfl) ?_
        repeat (go_big_quiet_step ((first | fail)))
        refine wpQuiet_nil ?_
        intro w10 hq'; have hb10 := Fut.of hq'; clear hq'
        go_wp2_with fail
        go_step3
        go_wp2_with fail
        go_loopw [12, 13, 15, 80] (fun u12 u13 _ i wr => ∃ (k a2 b2 : Nat) (xv yv : Int), k ≤ ps.length ∧ i = .int .i64 k ∧ u12 = .int .u64 xv ∧ u13 = .int .u64 yv ∧ W2 wr w.heap.size a2 b2 ∧ a2 < 10000 ∧ wlk frE flE a2 b2 (xv, yv) (ps.drop k) = res ∧ Below w.heap.size w wr) (fun _ _ _ i _ => ps.length - (intOf i).toNat)
        case atStart => exact ⟨0, a', b', c0, c0, Nat.zero_le _, rfl, rfl, rfl, HW.out.below hb10 HW.out.lt, ha', HRES.out, HB.out.trans (hb10.mono HB.out.size)⟩
        case round =>
          clear HW HB HRES c0' c1' c2' hbit HC
          obtain ⟨k, a2, b2, xv, yv, hk, rfl, rfl, rfl, hw2, ha2, hwlk, hb2⟩ := hrel
          have c0' : wr.cell? ⟨w.heap.size, 0, none⟩ = some (.int .u64 a2) := hw2.cell 0
          have c1' : wr.cell? ⟨w.heap.size, 1, none⟩ = some (.int .u64 b2) := hw2.cell 1
          have HB := hide hb2
          by_cases hlt : k < ps.length
          · first
            | (exfalso; omega)
            | (have hc1 : ¬ pcap = 1 := by omega
               obtain ⟨pb', po', hA, hbl2, hc⟩ := (K.out.then_ HB.out).at_ (i := k + 1) (by simp; omega)
               injection hA with hA
               injection hA with hA1 hA2
               subst hA1 hA2
               have c2' := hc (k + 1) (by simp; omega)
               rw [List.getElem_cons_succ, show po + (k + 1) = po + 1 + k by omega] at c2'
               rw [List.drop_eq_getElem_cons hlt] at hwlk
               obtain ⟨p, hpp⟩ : ∃ p, p = ps[k] := ⟨_, rfl⟩
               rw [← hpp] at c2' hwlk
               have HW := hide hw2
               clear hc hpp hb2 hw2
               by_cases hz : b2 = 0
               · subst hz
                 rw [wlk_end] at hwlk
                 subst hwlk
                 go_wp2
                 repeat (rw [Exit.noGoto_ret])
                 go_ret
                 exact ⟨rfl, BX.out.trans (HB.out.mono BX.out.size)⟩
               · have qz : ((b2 : Int) == 0) = false := by simp; omega
                 rw [wlk_cons, if_neg hz] at hwlk
                 have HR := hide fun W (hh : W2 W w.heap.size a2 b2) => right_any w.heap.size a2 b2 W hh ha2
                 cases hr : isR a2 b2
                 · rw [hr] at HR hwlk
                   rw [if_neg (by simp)] at hwlk
                   have HL := hide hwlk
                   have HU := hide fun W (hh : W2 W w.heap.size a2 b2) => up_any w.heap.size a2 b2 false W hh ha2
                   clear hwlk hr
                   go_wp2_with (first
                                   | (go_at_call 48; refine (HR.out _ HW.out).mono ?_; rintro e w23 ⟨rfl, hb⟩; have HW := hide (HW.out.below hb HW.out.lt); have HB := hide (HB.out.trans (hb.mono HB.out.size)); clear hb)
                                   | (go_at_call 49; refine (pair_any _ _ _).mono ?_; rintro e w24 ⟨rfl, hb⟩; have HW := hide (HW.out.below hb HW.out.lt); have HB := hide (HB.out.trans (hb.mono HB.out.size)); clear hb)
                                   | (go_at_call 47; refine (HU.out _ HW.out).mono ?_; rintro e w25 ⟨⟨_, rfl⟩, hw5, hg5⟩; have HB5 := hide (HB.out.grown hg5 HB.out.size (fun g hg => by injection hg with hg; omega)); have HW5 := hide hw5; clear hw5 hg5))
                   go_roundw
                   case rel => exact ⟨k + 1, a2 / 2, b2 / 2, xv, pairF yv p, by omega, by go_num, rfl, rfl, HW5.out, by omega, HL.out, HB5.out⟩
                   case measure => simp [intOf]; omega
                 · rw [hr] at HR hwlk
                   rw [if_pos rfl] at hwlk
                   have HL := hide hwlk
                   have HU := hide fun W (hh : W2 W w.heap.size a2 b2) => up_any w.heap.size a2 b2 true W hh ha2
                   have hle := upT_le a2 a2 b2 (Nat.le_refl _)
                   clear hwlk hr
                   go_wp2_with (first
                                   | (go_at_call 48; refine (HR.out _ HW.out).mono ?_; rintro e w23 ⟨rfl, hb⟩; have HW := hide (HW.out.below hb HW.out.lt); have HB := hide (HB.out.trans (hb.mono HB.out.size)); clear hb)
                                   | (go_at_call 49; refine (pair_any _ _ _).mono ?_; rintro e w24 ⟨rfl, hb⟩; have HW := hide (HW.out.below hb HW.out.lt); have HB := hide (HB.out.trans (hb.mono HB.out.size)); clear hb)
                                   | (go_at_call 47; refine (HU.out _ HW.out).mono ?_; rintro e w25 ⟨⟨_, rfl⟩, hw5, hg5⟩; have HB5 := hide (HB.out.grown hg5 HB.out.size (fun g hg => by injection hg with hg; omega)); have HW5 := hide hw5; clear hw5 hg5))
                   go_roundw
                   case rel => exact ⟨k + 1, (upT a2 b2).1, (upT a2 b2).2, pairF p xv, pairF p yv, by omega, by go_num, rfl, rfl, HW5.out, by omega, HL.out, HB5.out⟩
                   case measure => simp [intOf]; omega)
          · have hd : ps.drop k = [] := List.drop_eq_nil_of_le (by omega)
            rw [hd] at hwlk
            clear hw2 hb2
            by_cases hz : b2 = 0
            · subst hz
              rw [wlk_nil0] at hwlk
              subst hwlk
              have HE := hide (show decide (some (xv, yv) = some (a, b)) = ((xv == a) && (yv == b)) by rw [Bool.eq_iff_iff]; simp)
              have HF := hide (BX.out.trans (HB.out.mono BX.out.size))
              cases hq : (xv == a)
              · go_wp2
                repeat (rw [Exit.noGoto_ret])
                go_ret
                exact ⟨by rw [HE.out, hq]; rfl, HF.out⟩
              · go_wp2
                repeat (rw [Exit.noGoto_ret])
                go_ret
                exact ⟨by rw [HE.out, hq]; rfl, HF.out⟩
            · have qz : ((b2 : Int) == 0) = false := by simp; omega
              rw [wlk_nil hz] at hwlk
              subst hwlk
              have HF := hide (BX.out.trans (HB.out.mono BX.out.size))
              go_wp2
              repeat (rw [Exit.noGoto_ret])
              go_ret
              exact ⟨rfl, HF.out⟩
set_option maxRecDepth 100000 in
theorem ext_none (a b : Int) (mm nn : Nat) (A : Option Addr) (pcap : Nat) (w : World) (hm1 : 1 ≤ mm) (hmn : mm < nn) (hn : nn ≤ 4096) (hpow : ¬isPow mm) :
  Calls Tryd.prog 21 #[.int .u64 a, .int .u64 b, .int .i64 (mm : Int), .int .i64 (nn : Int), .slice A 0 pcap] w fun e w' => e = .returned (.bool false) ∧ Below w.heap.size w w' := by
 have q1 : decide ((nn : Int) < 1) = false := decide_eq_false (by omega); have q2 : decide (4096 < (nn : Int)) = false := decide_eq_false (by omega); have q3 : decide ((mm : Int) < 1) = false := decide_eq_false (by omega); have q4 : decide ((nn : Int) < mm) = false := decide_eq_false (by omega); have q5 : decide (nn < mm) = false := decide_eq_false (by omega); have q6 : ((mm : Int) == (nn : Int)) = false := by simp; omega
 have hb0 := and_pred hm1 (by omega); have hz0 : ¬(mm &&& (mm - 1) = 0) := fun e => hpow ((isPow_iff hm1 (by omega)).2 e)
 obtain ⟨z, hz⟩ : ∃ z, z = mm &&& (mm - 1) := ⟨_, rfl⟩; rw [← hz] at hb0 hz0; have q7 : ((z : Int) == 0) = false := by simp; omega
 have p1 : (0 : Int) ≤ (mm : Int) - 1 := by omega
 have p2 : (mm : Int) - 1 ≤ 5000 := by omega
 clear hpow hz
 go_enter Tryd.func21, Tryd.ntmps21
 go_wp2
 go_step3
 go_wp2
 repeat (rw [Exit.noGoto_ret])
 go_ret
 exact ⟨rfl, Below.refl _ _⟩
set_option maxRecDepth 100000 in
theorem ext_same (a b : Int) (nn : Nat) (A : Option Addr) (n c : Nat) (w : World) (hn1 : 1 ≤ nn) (hn : nn ≤ 4096) :
  Calls Tryd.prog 21 #[.int .u64 a, .int .u64 b, .int .i64 (nn : Int), .int .i64 (nn : Int), .slice A n c] w fun e w' => e = .returned (.bool (decide (n = 0) && (a == b))) ∧ Below w.heap.size w w' := by
 have q1 : decide ((nn : Int) < 1) = false := decide_eq_false (by omega); have q2 : decide (4096 < (nn : Int)) = false := decide_eq_false (by omega)
 by_cases h0 : n = 0
 ·subst h0; rw [decide_eq_true rfl, Bool.true_and]
  go_enter Tryd.func21, Tryd.ntmps21
  go_wp2
  go_step3
  go_wp2
  repeat (rw [Exit.noGoto_ret])
  go_ret
  exact ⟨rfl, Below.refl _ _⟩
 ·rw [decide_eq_false h0, Bool.false_and]; have q0 : ((n : Int) == 0) = false := by simp; omega
  clear h0
  go_enter Tryd.func21, Tryd.ntmps21
  go_wp2
  go_step3
  go_wp2
  repeat (rw [Exit.noGoto_ret])
  go_ret
  exact ⟨rfl, Below.refl _ _⟩
set_option maxRecDepth 100000 in
theorem Extended_any (a b m n : Int) (A : Option Addr) (c : Nat) (path : List Int) (w : World) (hp : path.length ≤ 1000) (hc : path.length ≤ c) (h : KS .u64 w A path) :
  Calls Tryd.prog 21 #[.int .u64 a, .int .u64 b, .int .i64 m, .int .i64 n, .slice A path.length c] w fun e w' => e = .returned (.bool (growS a b m n path)) ∧ Below w.heap.size w w' := by
 by_cases hbad : n < 1 ∨ 4096 < n ∨ m < 1 ∨ n < m
 ·have hr : growS a b m n path = false := if_pos hbad; rw [hr]; have hcase : decide (n < 1) = true ∨ decide (n < 1) = false ∧ decide (4096 < n) = true ∨ decide (n < 1) = false ∧ decide (4096 < n) = false ∧ decide (m < 1) = true ∨ decide (n < 1) = false ∧ decide (4096 < n) = false ∧ decide (m < 1) = false ∧ decide (n < m) = true := by
   simp only [decide_eq_true_eq, decide_eq_false_iff_not]; omega
  clear hr hbad; rcases hcase with q1 | ⟨q1, q2⟩ | ⟨q1, q2, q3⟩ | ⟨q1, q2, q3, q4⟩
  all_goals
   go_enter Tryd.func21, Tryd.ntmps21
   go_wp2
   go_step3
   go_wp2
   repeat (rw [Exit.noGoto_ret])
   go_ret
   exact ⟨rfl, Below.refl _ _⟩
 ·obtain ⟨mm, rfl⟩ : ∃ j : Nat, m = j := ⟨m.toNat, by omega⟩; obtain ⟨nn, rfl⟩ : ∃ j : Nat, n = j := ⟨n.toNat, by omega⟩; have hr : growS a b mm nn path = decide (growO pairF a mm nn true path = some (a, b)) := if_neg hbad; rw [hr]
  by_cases he : mm = nn
  ·subst he; have := ext_same a b mm A path.length c w (by omega) (by omega); rw [growO_mark]; have e : decide ((if path = [] then some (a, a) else none) = some (a, b)) = (decide (path.length = 0) && (a == b)) := by
    rw [Bool.eq_iff_iff]; cases path <;> simp
   rw [e]; exact this
  ·by_cases hpow : isPow mm
   ·exact ext_pow a b mm nn A c path w hp (by omega) (by omega) (by omega) hpow h
   ·cases path with
    | nil =>
     have := ext_none a b mm nn A c w (by omega) (by omega) (by omega) hpow; rw [growO_nil (by omega)]; exact this
    | cons c0 ps =>
     exact ext_odd a b mm nn A c0 ps c w (by simp at hp; omega) (by simpa using hc) (by omega) (by omega) (by omega) hpow h
end Go.Proofs.YtiijddjfiojfaaaDoor
namespace Go.Proofs.YtiijddjfiojfaaaDoor
open Go.RowKit
end Go.Proofs.YtiijddjfiojfaaaDoor
namespace Go.Proofs.YtiijddjfiojfaaaDoor
open Go.RowKit
end Go.Proofs.YtiijddjfiojfaaaDoor
namespace Go.Proofs.YtiijddjfiojfaaaDoor
open Go.RowKit
end Go.Proofs.YtiijddjfiojfaaaDoor
namespace Go.Proofs.YtiijddjfiojfaaaDoor
open Go.RowKit
end Go.Proofs.YtiijddjfiojfaaaDoor
namespace Go.Proofs.YtiijddjfiojfaaaDoor
open Go.RowKit
theorem fl_u64 (l : List Int) : l.flatMap c_u64 = l.map (Value.int .u64) := by induction l with | nil => rfl | cons x l ih => rw [List.flatMap_cons, ih]; rfl
theorem fl_i64 (l : List Int) : l.flatMap c_i64 = l.map (Value.int .i64) := by induction l with | nil => rfl | cons x l ih => rw [List.flatMap_cons, ih]; rfl
theorem RowS.ks {S : Nat → Prop} {w : World} {A : Option Addr} {l : List Int} (h : RowS S w A (l.flatMap c_u64)) : KS .u64 w A l := by have := h.r; rwa [fl_u64] at this
theorem RowS.ki {S : Nat → Prop} {w : World} {A : Option Addr} {l : List Int} (h : RowS S w A (l.flatMap c_i64)) : KS .i64 w A l := by have := h.r; rwa [fl_i64] at this
theorem row_fresh {S : Nat → Prop} {w w' : World} {A : Option Addr} {l : List Int} (h : KS .u64 w' A l) (hf : FrA w A) : RowS (ext S w w') w' A (l.flatMap c_u64) := by
 rw [fl_u64]; refine ⟨h, fun hn => ?_⟩; obtain ⟨b, o, e, hb, _⟩ := h hn; exact ⟨b, o, e, .inr ⟨hf b o e, hb⟩⟩
theorem octL_len (n : Int) : (octL n).length = 8 := rfl
def okI (l : List Int) : Bool := decide (inI l ∧ l.length ≤ 100000)
def intsF (l : List Int) : Int := sumB (textL l)
def nextF (d : Int) (l : List Int) : Int := sumB (octL d ++ textL l)
def G_digest_Ints : Nat → (List Int) → Option Int
 | 0, _ => none
 | _ + 1, l => whenG (okI l) (intsF l)
theorem ks_low {S0 : Nat → Prop} {w0 : World} {A : Option Addr} {l : List Int} (hS : ∀ g, S0 g → g < w0.heap.size) (h : RowS S0 w0 A (l.flatMap c_i64)) : ∀ W, Below w0.heap.size w0 W → KS .i64 W A l := fun W hW => (h.to (fun _ h => h) (Ag.below hW hS)).ki
theorem g_digest_Ints (F : Nat) (A : Option Addr) (c : Nat) (l : List Int) (S0 : Nat → Prop) (w0 : World) (hS : ∀ g, S0 g → g < w0.heap.size) (hT : Tb w0) (h : RowS S0 w0 A (l.flatMap c_i64)) (hc : l.length ≤ c) (r : Int) (hG : G_digest_Ints F l = some r) :
  Calls Tryd.prog 33 #[.slice A l.length c] w0 fun e w' => e = .returned (.int .u64 r) ∧ Below w0.heap.size w0 w' := by
 cases F with
 | zero => cases hG
 | succ F =>
 obtain ⟨h1, rfl⟩ := whenG_some hG; obtain ⟨h2, h3⟩ := of_decide_eq_true h1; have hlen := textL_len h2; have T1 := hide (text_any w0.heap.size 0 (.slice none 0 0) [] l A c w0 w0 hT (Below.refl _ _) (Nat.le_refl _) (Nat.le_refl _) OwnK.nil (by simp) (ks_low hS h) h2 h3); have HS := hide fun A c l W hn s => sum_any A c l W hn s
 clear hG h1 h hS hT
 go_enter Tryd.func33, Tryd.ntmps33
 go_wp2_with (first
  | (go_at_call 67; refine T1.out.mono ?_; rintro e w3 ⟨v3, rfl, ho3, hb3⟩; obtain ⟨A3, c3, rfl, hl3, hm3, hk3⟩ := ho3.form; have B3 := hide hb3; have K3 := hide hk3; clear ho3 hb3 hk3)
  | (go_at_call 66; refine (HS.out A3 c3 _ _ (by simp; omega) K3.out).mono ?_; rintro e w4 ⟨rfl, rfl⟩))
 go_ret
 exact ⟨rfl, B3.out⟩
def G_digest_Next : Nat → Int → (List Int) → Option Int
 | 0, _, _ => none
 | _ + 1, d, l => whenG (decide (inI l ∧ l.length ≤ 10000 ∧ 1 ≤ l.length)) (nextF d l)
set_option maxRecDepth 100000 in
set_option maxHeartbeats 4000000 in
theorem g_digest_Next (F : Nat) (n : Int) (A : Option Addr) (c : Nat) (l : List Int) (S0 : Nat → Prop) (w0 : World) (hS : ∀ g, S0 g → g < w0.heap.size) (hT : Tb w0) (h : RowS S0 w0 A (l.flatMap c_i64)) (hc : l.length ≤ c) (r : Int) (hG : G_digest_Next F n l = some r) :
  Calls Tryd.prog 89 #[.int .u64 n, .slice A l.length c] w0 fun e w' => e = .returned (.int .u64 r) ∧ Below w0.heap.size w0 w' := by
 cases F with
 | zero => cases hG
 | succ F =>
 obtain ⟨h1, rfl⟩ := whenG_some hG; obtain ⟨h2, h3, h4⟩ := of_decide_eq_true h1; have hlen := textL_len h2; obtain ⟨L, hL⟩ : ∃ L, L = octL n ++ textL l := ⟨_, rfl⟩; have hLl : L.length ≤ 9223372036854775807 := by rw [hL, List.length_append, octL_len]; omega
 have hR : nextF n l = sumB L := by rw [hL]; rfl
 rw [hR]; have T1 : Hid (∀ (W w : World), Below w0.heap.size w0 W → Below W.heap.size W w → ∀ A', KS .u8 w A' (octL n) → Calls Tryd.prog 67 #[.slice A' 8 8, .slice A l.length c] w fun e w' => ∃ v', e = .returned v' ∧ OwnK .u8 5 w' w.heap.size v' L ∧ Below w.heap.size w w') := by
  refine hide fun W w hW hb A' hk => ?_
  rw [hL]; exact text_f A' 8 (octL n) l A c w0 w hT (hW.trans (hb.mono hW.size)) (by simp [octL]) (by omega) hk (fun W' hW' => ks_low hS h W' ((hW.trans (hb.mono hW.size)).trans (hW'.mono (Nat.le_trans hW.size hb.size)))) h2 h3 h4
 have HS := hide fun A c W s => sum_any A c L W hLl s
 clear hG h1 h hS hT hlen h2 hL hLl hR h3 h4
 go_enter Tryd.func89, Tryd.ntmps89
 go_wp2_with (first
  | (go_at_call 78; refine (octets_any n _).mono ?_; rintro e w2 ⟨rfl, hb2⟩; have hs2 := hb2.size; have H2 := hide hb2; have B2 := hide (hb2.alloc hs2 (.cells (octRow n 8) 124)); have K2 := hide (ks_oct (Blk.new w2 124 (octRow n 8))); have I2 := hide ((Below.refl w2.heap.size w2).alloc (Nat.le_refl _) (.cells (octRow n 8) 124)); clear hb2; simp only [octRow, Nat.reduceLT, if_true] at B2 K2 I2 ⊢)
  | (go_at_call 67; with_reducible refine (T1.out w2 _ H2.out I2.out _ K2.out).mono ?_; rintro e w3 ⟨v3, rfl, ho3, hb3⟩; obtain ⟨A3, c3, rfl, hl3, hm3, hk3⟩ := ho3.form; have B3 := hide (B2.out.trans (hb3.mono B2.out.size)); have K3 := hide hk3; clear ho3 hb3 hk3)
  | (go_at_call 66; with_reducible refine (HS.out A3 c3 _ K3.out).mono ?_; rintro e w4 ⟨rfl, rfl⟩))
 go_ret
 exact ⟨rfl, B3.out⟩
end Go.Proofs.YtiijddjfiojfaaaDoor
namespace Go.Proofs.YtiijddjfiojfaaaDoor
open Go.RowKit Go.Maps
def G_regulatorref03_Decimal : Nat → Int → Option ((List UInt8))
 | 0, _ => none
 | F + 1, p_0 =>
 ifB (decide (p_0 < 0))
  (ifB (((IntKind.i64.wrap (Int.tdiv p_0 10)) == 0))
   (Option.bind (apS ([45] : List UInt8) ([UInt8.ofNat (Int.toNat (IntKind.u8.wrap (IntKind.i64.wrap (48 - p_0))))] : List UInt8)) (fun v_4 =>
   some v_4))
   (Option.bind (Option.bind (G_regulatorref03_Decimal F (IntKind.i64.wrap (Int.tdiv p_0 10))) (fun v_6 =>
    Option.bind (apS v_6 ([UInt8.ofNat (Int.toNat (IntKind.u8.wrap (IntKind.i64.wrap (48 - (Int.tmod p_0 10)))))] : List UInt8)) (fun v_8 =>
    some v_8)) : Option ((List UInt8))) (fun (v_19 : (List UInt8)) =>
    some v_19)))
  (ifB (decide (p_0 < 10))
   (some ([UInt8.ofNat (Int.toNat (IntKind.u8.wrap (IntKind.i64.wrap (48 + p_0))))] : List UInt8))
   (Option.bind (Option.bind (G_regulatorref03_Decimal F (IntKind.i64.wrap (Int.tdiv p_0 10))) (fun v_25 =>
    Option.bind (apS v_25 ([UInt8.ofNat (Int.toNat (IntKind.u8.wrap (IntKind.i64.wrap (48 + (Int.tmod p_0 10)))))] : List UInt8)) (fun v_27 =>
    some v_27)) : Option ((List UInt8))) (fun (v_38 : (List UInt8)) =>
    some v_38)))
set_option maxRecDepth 100000 in
set_option maxHeartbeats 16000000 in
theorem g_regulatorref03_Decimal : ∀ (F : Nat) (p_0 : Int) (S0 : Nat → Prop) (w0 : World) (hS : ∀ g, S0 g → g < w0.heap.size) (hT : Tb w0)  (r : (List UInt8)) (hG : G_regulatorref03_Decimal F p_0 = some r),
  Calls Tryd.prog 95 #[.int .i64 p_0] w0 fun e w' => e = .returned (.string ⟨List.toArray r⟩) ∧ Below w0.heap.size w0 w' := by
 intro F
 induction F with
 | zero => intros; rename_i hG; cases hG
 | succ F ih =>
 intro p_0 S0 w0 hS hT  r hG; refine vc_enter (n := 41) Tryd.func95 rfl rfl rfl (fun a hK => ?_); replace hK := hK.weak (K' := [(0, .int .i64 p_0)]) ⟨rfl, trivial⟩; have hE := Es.start hS; unfold G_regulatorref03_Decimal at hG; refine wp_seq ?_; refine wp_region_lit ?_; refine o0 2 (.string ⟨List.toArray ([] : List UInt8)⟩) hK rfl (fun _ => by kernel_rfl) rfl rfl rfl ?_; clear hK a; intro a hK; refine wpList_nil ?_; refine xt_norm ?_; refine wp_seq ?_; refine wp_seq ?_; refine wp_region_lit ?_; refine o0 3 (.int .i64 p_0) hK rfl (fun _ => by kernel_rfl) rfl rfl rfl ?_; clear hK a; intro a hK; refine o0 4 (.bool (decide (p_0 < 0))) hK rfl (fun _ => by kernel_rfl) rfl rfl rfl ?_; clear hK a; intro a hK; refine wpList_nil ?_; refine xt_norm ?_; rcases ifB_cases hG with ⟨h_1, hG⟩ | ⟨h_1, hG⟩
 ·replace hK := hK.sub (d := 4) (v' := .bool true) rfl (congrArg Value.bool h_1); refine vc_cond (t := true) hK (fun _ => rfl) ?_; rw [if_pos rfl]; refine wp_seq ?_; refine wp_seq ?_; refine wp_region_lit ?_; refine o0 5 (.int .i64 p_0) hK rfl (fun _ => by kernel_rfl) rfl rfl rfl ?_; clear hK a; intro a hK; refine st_run (d := 6) (v' := .int .i64 (IntKind.i64.wrap (Int.tdiv p_0 10))) hK rfl (ex_int rfl (fun _ => rfl) (fun _ => rfl) (by kernel_rfl) (fun W => run_quo (by decide) W)) rfl rfl rfl ?_; clear hK a; intro a hK; refine o0 7 (.bool ((IntKind.i64.wrap (Int.tdiv p_0 10)) == 0)) hK rfl (fun _ => by kernel_rfl) rfl rfl rfl ?_; clear hK a; intro a hK; refine wpList_nil ?_; refine xt_norm ?_; rcases ifB_cases hG with ⟨h_2, hG⟩ | ⟨h_2, hG⟩
  ·replace hK := hK.sub (d := 7) (v' := .bool true) rfl (congrArg Value.bool h_2); refine vc_cond (t := true) hK (fun _ => rfl) ?_; rw [if_pos rfl]; refine wp_seq ?_; obtain ⟨v_4, hy_4, hG⟩ := bind_some hG; refine wp_region_lit ?_; refine o0 8 (.int .i64 p_0) hK rfl (fun _ => by kernel_rfl) rfl rfl rfl ?_; clear hK a; intro a hK; refine oN 2 (fun K => (10, .int .u8 (IntKind.u8.wrap (IntKind.i64.wrap (48 - p_0)))) :: (9, .int .i64 (IntKind.i64.wrap (48 - p_0))) :: K) hK (fun _ => by kernel_rfl) ?_; clear hK a; intro a hK; refine sq_new (d := 11) (v := fun g => .slice (some ⟨g, 0, none⟩) 1 1) (cs := #[.int .u8 (IntKind.u8.wrap (IntKind.i64.wrap (48 - p_0)))]) (t := 5) hK hE rfl (fun _ _ => by kernel_rfl) rfl rfl ?_; clear hK hE a; intro a g_3 w_5 hK hE; refine st_op (d := 12) (v' := .string ⟨List.toArray ([UInt8.ofNat (Int.toNat (IntKind.u8.wrap (IntKind.i64.wrap (48 - p_0))))] : List UInt8)⟩) (vs := [.int .u8 (IntKind.u8.wrap (IntKind.i64.wrap (48 - p_0)))]) (obs := [(⟨g_3, 0, none⟩, .int .u8 (IntKind.u8.wrap (IntKind.i64.wrap (48 - p_0))))]) hK rfl (fun _ => by kernel_rfl) ⟨((hE.blk 0 rfl).cell 0).trans rfl, trivial⟩ rfl rfl rfl ?_; clear hK a; intro a hK; refine st_run (d := 13) (v' := .string ⟨List.toArray v_4⟩) hK rfl (ex_eq rfl (fun _ => rfl) (fun _ => rfl) (by kernel_rfl) (fun W => run_str_add hy_4 W)) rfl rfl rfl ?_; clear hK a; intro a hK; refine o0 2 (.string ⟨List.toArray v_4⟩) hK rfl (fun _ => by kernel_rfl) rfl rfl rfl ?_; clear hK a; intro a hK; refine wpList_nil ?_; refine xt_norm ?_; refine wp_ret ?_; refine xt_ret ?_; refine xt_ret ?_; refine vc_ret (v' := .string ⟨List.toArray v_4⟩) (vs := []) (obs := []) hK (fun _ => by kernel_rfl) trivial rfl ?_; obtain rfl := Option.some.inj hG; exact ⟨rfl, hE.b⟩
  ·replace hK := hK.sub (d := 7) (v' := .bool false) rfl (congrArg Value.bool h_2); refine vc_cond (t := false) hK (fun _ => rfl) ?_; rw [if_neg (by simp)]; refine wp_skip ?_; refine xt_norm ?_; obtain ⟨o_18, hA_18, hG_18⟩ := bind_some hG; replace hG := hA_18; clear hA_18; refine seq_join1 (fun a w_ => ∃ (v_19 : List UInt8), ∃ S_, Kn 41 [(2, .string ⟨List.toArray v_19⟩)] a ∧ Es S0 w0 w_ S_ [] ∧ v_19 = o_18) ?_ ?_
   ·obtain ⟨v_6, hy_6, hG⟩ := bind_some hG; obtain ⟨v_8, hy_8, hG⟩ := bind_some hG; replace hE := hE.drew; refine rh_begin (S0 := S0) (w0 := w0) [] rfl ?_; generalize w0.drew = w_9 at hE ⊢; refine rh_take (i := 0) (d := 14) (v' := .int .i64 p_0) (vs := []) (obs := []) #[true, false, false, false, false, false, false, false, false, false, false] (by kernel_rfl) hK ⟨_, hE.sel [] rfl rfl⟩ rfl (by kernel_rfl) (by kernel_rfl) (by kernel_rfl) (by kernel_rfl) (fun _ _ _ h => h) (fun _ => by kernel_rfl) (fun _ _ _ => trivial) rfl rfl rfl ?_; clear hK a; intro a hK; refine rh_run (i := 1) (d := 15) (v' := .int .i64 (IntKind.i64.wrap (Int.tdiv p_0 10))) #[true, true, false, false, false, false, false, false, false, false, false] (by kernel_rfl) hK ⟨_, hE.sel [] rfl rfl⟩ rfl (by kernel_rfl) (by kernel_rfl) (by kernel_rfl) (by kernel_rfl) (fun _ _ _ h => h) (ex_int rfl (fun _ => rfl) (fun _ => rfl) (by kernel_rfl) (fun W => run_quo (by decide) W)) rfl rfl rfl ?_; clear hK a; intro a hK; refine rh_take (i := 3) (d := 17) (v' := .int .i64 p_0) (vs := []) (obs := []) #[true, true, false, true, false, false, false, false, false, false, false] (by kernel_rfl) hK ⟨_, hE.sel [] rfl rfl⟩ rfl (by kernel_rfl) (by kernel_rfl) (by kernel_rfl) (by kernel_rfl) (fun _ _ _ h => h) (fun _ => by kernel_rfl) (fun _ _ _ => trivial) rfl rfl rfl ?_; clear hK a; intro a hK; refine rh_run (i := 4) (d := 18) (v' := .int .i64 (Int.tmod p_0 10)) #[true, true, false, true, true, false, false, false, false, false, false] (by kernel_rfl) hK ⟨_, hE.sel [] rfl rfl⟩ rfl (by kernel_rfl) (by kernel_rfl) (by kernel_rfl) (by kernel_rfl) (fun _ _ _ h => h) (ex_int rfl (fun _ => rfl) (fun _ => rfl) (by kernel_rfl) (fun W => run_rem (by decide) W)) rfl rfl rfl ?_; clear hK a; intro a hK; refine rh_take (i := 5) (d := 19) (v' := .int .i64 (IntKind.i64.wrap (48 - (Int.tmod p_0 10)))) (vs := []) (obs := []) #[true, true, false, true, true, true, false, false, false, false, false] (by kernel_rfl) hK ⟨_, hE.sel [] rfl rfl⟩ rfl (by kernel_rfl) (by kernel_rfl) (by kernel_rfl) (by kernel_rfl) (fun _ _ _ h => h) (fun _ => by kernel_rfl) (fun _ _ _ => trivial) rfl rfl rfl ?_; clear hK a; intro a hK; refine rh_take (i := 6) (d := 20) (v' := .int .u8 (IntKind.u8.wrap (IntKind.i64.wrap (48 - (Int.tmod p_0 10))))) (vs := []) (obs := []) #[true, true, false, true, true, true, true, false, false, false, false] (by kernel_rfl) hK ⟨_, hE.sel [] rfl rfl⟩ rfl (by kernel_rfl) (by kernel_rfl) (by kernel_rfl) (by kernel_rfl) (fun _ _ _ h => h) (fun _ => by kernel_rfl) (fun _ _ _ => trivial) rfl rfl rfl ?_; clear hK a; intro a hK; refine rh_all [2, 7] (by kernel_rfl) (by simp) ⟨?_, ?_, trivial⟩
    ·refine rh_call (d := 16) (f := 95) (args := #[.int .i64 (IntKind.i64.wrap (Int.tdiv p_0 10))]) rfl hK rfl (fun _ => by kernel_rfl) rfl rfl (ih (IntKind.i64.wrap (Int.tdiv p_0 10)) (fun g => g < _) _ (fun _ h => h) (hT.to hE.b)  _ hy_6) ?_; rintro e w_10 ⟨rfl, hb⟩; replace hE := hE.call hb; obtain ⟨S_11, hE⟩ : ∃ S, Es _ _ _ S _ := ⟨_, hE⟩; clear hb; refine ⟨_, rfl, ⟨_, hE.sel [] rfl rfl⟩, ?_⟩; clear hK a; intro a hK; refine rh_all [7] (by kernel_rfl) (by simp) ⟨?_, trivial⟩; refine rh_new (d := 21) (v := fun g => .slice (some ⟨g, 0, none⟩) 1 1) (cs := #[.int .u8 (IntKind.u8.wrap (IntKind.i64.wrap (48 - (Int.tmod p_0 10))))]) (t := 5) rfl hK hE rfl (fun _ _ => by kernel_rfl) rfl rfl ?_; clear hK hE a; intro a g_7 w_12 hK hE; refine ⟨⟨_, hE.sel [] rfl rfl⟩, ?_⟩; refine rh_all [8] (by kernel_rfl) (by simp) ⟨?_, trivial⟩; refine rh_op (d := 22) (v' := .string ⟨List.toArray ([UInt8.ofNat (Int.toNat (IntKind.u8.wrap (IntKind.i64.wrap (48 - (Int.tmod p_0 10)))))] : List UInt8)⟩) (vs := [.int .u8 (IntKind.u8.wrap (IntKind.i64.wrap (48 - (Int.tmod p_0 10))))]) (obs := [(⟨g_7, 0, none⟩, .int .u8 (IntKind.u8.wrap (IntKind.i64.wrap (48 - (Int.tmod p_0 10)))))]) rfl hK ⟨_, hE.sel [] rfl rfl⟩ rfl (fun _ => by kernel_rfl) ⟨((hE.blk 0 rfl).cell 0).trans rfl, trivial⟩ rfl rfl rfl ?_; clear hK a; intro a hK; refine rh_run (i := 9) (d := 23) (v' := .string ⟨List.toArray v_8⟩) #[true, true, true, true, true, true, true, true, true, true, false] (by kernel_rfl) hK ⟨_, hE.sel [] rfl rfl⟩ rfl (by kernel_rfl) (by kernel_rfl) (by kernel_rfl) (by kernel_rfl) (fun _ _ _ h => h) (ex_eq rfl (fun _ => rfl) (fun _ => rfl) (by kernel_rfl) (fun W => run_str_add hy_8 W)) rfl rfl rfl ?_; clear hK a; intro a hK; refine rh_take (i := 10) (d := 2) (v' := .string ⟨List.toArray v_8⟩) (vs := []) (obs := []) #[true, true, true, true, true, true, true, true, true, true, true] (by kernel_rfl) hK ⟨_, hE.sel [] rfl rfl⟩ rfl (by kernel_rfl) (by kernel_rfl) (by kernel_rfl) (by kernel_rfl) (fun _ _ _ h => h) (fun _ => by kernel_rfl) (fun _ _ _ => trivial) rfl rfl rfl ?_; clear hK a; intro a hK; refine wpAnyH_done (by kernel_rfl) ?_ _; refine xt_norm ?_; exact ⟨v_8, _, hK.weak ⟨rfl, trivial⟩, hE.sel [] rfl rfl, Option.some.inj hG⟩
    ·refine rh_new (d := 21) (v := fun g => .slice (some ⟨g, 0, none⟩) 1 1) (cs := #[.int .u8 (IntKind.u8.wrap (IntKind.i64.wrap (48 - (Int.tmod p_0 10))))]) (t := 5) rfl hK hE rfl (fun _ _ => by kernel_rfl) rfl rfl ?_; clear hK hE a; intro a g_7 w_13 hK hE; refine ⟨⟨_, hE.sel [] rfl rfl⟩, ?_⟩; refine rh_all [2, 8] (by kernel_rfl) (by simp) ⟨?_, ?_, trivial⟩
     ·refine rh_call (d := 16) (f := 95) (args := #[.int .i64 (IntKind.i64.wrap (Int.tdiv p_0 10))]) rfl hK rfl (fun _ => by kernel_rfl) rfl rfl (ih (IntKind.i64.wrap (Int.tdiv p_0 10)) (fun g => g < _) _ (fun _ h => h) (hT.to hE.b)  _ hy_6) ?_; rintro e w_14 ⟨rfl, hb⟩; replace hE := hE.call hb; obtain ⟨S_15, hE⟩ : ∃ S, Es _ _ _ S _ := ⟨_, hE⟩; clear hb; refine ⟨_, rfl, ⟨_, hE.sel [] rfl rfl⟩, ?_⟩; clear hK a; intro a hK; refine rh_all [8] (by kernel_rfl) (by simp) ⟨?_, trivial⟩; refine rh_op (d := 22) (v' := .string ⟨List.toArray ([UInt8.ofNat (Int.toNat (IntKind.u8.wrap (IntKind.i64.wrap (48 - (Int.tmod p_0 10)))))] : List UInt8)⟩) (vs := [.int .u8 (IntKind.u8.wrap (IntKind.i64.wrap (48 - (Int.tmod p_0 10))))]) (obs := [(⟨g_7, 0, none⟩, .int .u8 (IntKind.u8.wrap (IntKind.i64.wrap (48 - (Int.tmod p_0 10)))))]) rfl hK ⟨_, hE.sel [] rfl rfl⟩ rfl (fun _ => by kernel_rfl) ⟨((hE.blk 0 rfl).cell 0).trans rfl, trivial⟩ rfl rfl rfl ?_; clear hK a; intro a hK; refine rh_run (i := 9) (d := 23) (v' := .string ⟨List.toArray v_8⟩) #[true, true, true, true, true, true, true, true, true, true, false] (by kernel_rfl) hK ⟨_, hE.sel [] rfl rfl⟩ rfl (by kernel_rfl) (by kernel_rfl) (by kernel_rfl) (by kernel_rfl) (fun _ _ _ h => h) (ex_eq rfl (fun _ => rfl) (fun _ => rfl) (by kernel_rfl) (fun W => run_str_add hy_8 W)) rfl rfl rfl ?_; clear hK a; intro a hK; refine rh_take (i := 10) (d := 2) (v' := .string ⟨List.toArray v_8⟩) (vs := []) (obs := []) #[true, true, true, true, true, true, true, true, true, true, true] (by kernel_rfl) hK ⟨_, hE.sel [] rfl rfl⟩ rfl (by kernel_rfl) (by kernel_rfl) (by kernel_rfl) (by kernel_rfl) (fun _ _ _ h => h) (fun _ => by kernel_rfl) (fun _ _ _ => trivial) rfl rfl rfl ?_; clear hK a; intro a hK; refine wpAnyH_done (by kernel_rfl) ?_ _; refine xt_norm ?_; exact ⟨v_8, _, hK.weak ⟨rfl, trivial⟩, hE.sel [] rfl rfl, Option.some.inj hG⟩
     ·refine rh_op (d := 22) (v' := .string ⟨List.toArray ([UInt8.ofNat (Int.toNat (IntKind.u8.wrap (IntKind.i64.wrap (48 - (Int.tmod p_0 10)))))] : List UInt8)⟩) (vs := [.int .u8 (IntKind.u8.wrap (IntKind.i64.wrap (48 - (Int.tmod p_0 10))))]) (obs := [(⟨g_7, 0, none⟩, .int .u8 (IntKind.u8.wrap (IntKind.i64.wrap (48 - (Int.tmod p_0 10)))))]) rfl hK ⟨_, hE.sel [] rfl rfl⟩ rfl (fun _ => by kernel_rfl) ⟨((hE.blk 0 rfl).cell 0).trans rfl, trivial⟩ rfl rfl rfl ?_; clear hK a; intro a hK; refine rh_all [2] (by kernel_rfl) (by simp) ⟨?_, trivial⟩; refine rh_call (d := 16) (f := 95) (args := #[.int .i64 (IntKind.i64.wrap (Int.tdiv p_0 10))]) rfl hK rfl (fun _ => by kernel_rfl) rfl rfl (ih (IntKind.i64.wrap (Int.tdiv p_0 10)) (fun g => g < _) _ (fun _ h => h) (hT.to hE.b)  _ hy_6) ?_; rintro e w_16 ⟨rfl, hb⟩; replace hE := hE.call hb; obtain ⟨S_17, hE⟩ : ∃ S, Es _ _ _ S _ := ⟨_, hE⟩; clear hb; refine ⟨_, rfl, ⟨_, hE.sel [] rfl rfl⟩, ?_⟩; clear hK a; intro a hK; refine rh_run (i := 9) (d := 23) (v' := .string ⟨List.toArray v_8⟩) #[true, true, true, true, true, true, true, true, true, true, false] (by kernel_rfl) hK ⟨_, hE.sel [] rfl rfl⟩ rfl (by kernel_rfl) (by kernel_rfl) (by kernel_rfl) (by kernel_rfl) (fun _ _ _ h => h) (ex_eq rfl (fun _ => rfl) (fun _ => rfl) (by kernel_rfl) (fun W => run_str_add hy_8 W)) rfl rfl rfl ?_; clear hK a; intro a hK; refine rh_take (i := 10) (d := 2) (v' := .string ⟨List.toArray v_8⟩) (vs := []) (obs := []) #[true, true, true, true, true, true, true, true, true, true, true] (by kernel_rfl) hK ⟨_, hE.sel [] rfl rfl⟩ rfl (by kernel_rfl) (by kernel_rfl) (by kernel_rfl) (by kernel_rfl) (fun _ _ _ h => h) (fun _ => by kernel_rfl) (fun _ _ _ => trivial) rfl rfl rfl ?_; clear hK a; intro a hK; refine wpAnyH_done (by kernel_rfl) ?_ _; refine xt_norm ?_; exact ⟨v_8, _, hK.weak ⟨rfl, trivial⟩, hE.sel [] rfl rfl, Option.some.inj hG⟩
   ·clear hK hE a; rintro a w_20 ⟨v_19, S_21, hK, hE, ho_⟩; subst ho_; replace hG := hG_18; clear hG_18; refine wp_ret ?_; refine xt_ret ?_; refine vc_ret (v' := .string ⟨List.toArray v_19⟩) (vs := []) (obs := []) hK (fun _ => by kernel_rfl) trivial rfl ?_; obtain rfl := Option.some.inj hG; exact ⟨rfl, hE.b⟩
 ·replace hK := hK.sub (d := 4) (v' := .bool false) rfl (congrArg Value.bool h_1); refine vc_cond (t := false) hK (fun _ => rfl) ?_; rw [if_neg (by simp)]; refine wp_skip ?_; refine xt_norm ?_; refine wp_seq ?_; refine wp_seq ?_; refine wp_region_lit ?_; refine o0 24 (.int .i64 p_0) hK rfl (fun _ => by kernel_rfl) rfl rfl rfl ?_; clear hK a; intro a hK; refine o0 25 (.bool (decide (p_0 < 10))) hK rfl (fun _ => by kernel_rfl) rfl rfl rfl ?_; clear hK a; intro a hK; refine wpList_nil ?_; refine xt_norm ?_; rcases ifB_cases hG with ⟨h_22, hG⟩ | ⟨h_22, hG⟩
  ·replace hK := hK.sub (d := 25) (v' := .bool true) rfl (congrArg Value.bool h_22); refine vc_cond (t := true) hK (fun _ => rfl) ?_; rw [if_pos rfl]; refine wp_seq ?_; refine wp_region_lit ?_; refine o0 26 (.int .i64 p_0) hK rfl (fun _ => by kernel_rfl) rfl rfl rfl ?_; clear hK a; intro a hK; refine oN 2 (fun K => (28, .int .u8 (IntKind.u8.wrap (IntKind.i64.wrap (48 + p_0)))) :: (27, .int .i64 (IntKind.i64.wrap (48 + p_0))) :: K) hK (fun _ => by kernel_rfl) ?_; clear hK a; intro a hK; refine sq_new (d := 29) (v := fun g => .slice (some ⟨g, 0, none⟩) 1 1) (cs := #[.int .u8 (IntKind.u8.wrap (IntKind.i64.wrap (48 + p_0)))]) (t := 5) hK hE rfl (fun _ _ => by kernel_rfl) rfl rfl ?_; clear hK hE a; intro a g_23 w_24 hK hE; refine st_op (d := 30) (v' := .string ⟨List.toArray ([UInt8.ofNat (Int.toNat (IntKind.u8.wrap (IntKind.i64.wrap (48 + p_0))))] : List UInt8)⟩) (vs := [.int .u8 (IntKind.u8.wrap (IntKind.i64.wrap (48 + p_0)))]) (obs := [(⟨g_23, 0, none⟩, .int .u8 (IntKind.u8.wrap (IntKind.i64.wrap (48 + p_0))))]) hK rfl (fun _ => by kernel_rfl) ⟨((hE.blk 0 rfl).cell 0).trans rfl, trivial⟩ rfl rfl rfl ?_; clear hK a; intro a hK; refine st_op (d := 2) (v' := .string ⟨List.toArray ([UInt8.ofNat (Int.toNat (IntKind.u8.wrap (IntKind.i64.wrap (48 + p_0))))] : List UInt8)⟩) (vs := []) (obs := []) hK rfl (fun _ => by kernel_rfl) trivial rfl rfl rfl ?_; clear hK a; intro a hK; refine wpList_nil ?_; refine xt_norm ?_; refine wp_ret ?_; refine xt_ret ?_; refine vc_ret (v' := .string ⟨List.toArray ([UInt8.ofNat (Int.toNat (IntKind.u8.wrap (IntKind.i64.wrap (48 + p_0))))] : List UInt8)⟩) (vs := []) (obs := []) hK (fun _ => by kernel_rfl) trivial rfl ?_; obtain rfl := Option.some.inj hG; exact ⟨rfl, hE.b⟩
  ·replace hK := hK.sub (d := 25) (v' := .bool false) rfl (congrArg Value.bool h_22); refine vc_cond (t := false) hK (fun _ => rfl) ?_; rw [if_neg (by simp)]; refine wp_skip ?_; refine xt_norm ?_; obtain ⟨o_37, hA_37, hG_37⟩ := bind_some hG; replace hG := hA_37; clear hA_37; refine seq_join1 (fun a w_ => ∃ (v_38 : List UInt8), ∃ S_, Kn 41 [(2, .string ⟨List.toArray v_38⟩)] a ∧ Es S0 w0 w_ S_ [] ∧ v_38 = o_37) ?_ ?_
   ·obtain ⟨v_25, hy_25, hG⟩ := bind_some hG; obtain ⟨v_27, hy_27, hG⟩ := bind_some hG; replace hE := hE.drew; refine rh_begin (S0 := S0) (w0 := w0) [] rfl ?_; generalize w0.drew = w_28 at hE ⊢; refine rh_take (i := 0) (d := 31) (v' := .int .i64 p_0) (vs := []) (obs := []) #[true, false, false, false, false, false, false, false, false, false, false] (by kernel_rfl) hK ⟨_, hE.sel [] rfl rfl⟩ rfl (by kernel_rfl) (by kernel_rfl) (by kernel_rfl) (by kernel_rfl) (fun _ _ _ h => h) (fun _ => by kernel_rfl) (fun _ _ _ => trivial) rfl rfl rfl ?_; clear hK a; intro a hK; refine rh_run (i := 1) (d := 32) (v' := .int .i64 (IntKind.i64.wrap (Int.tdiv p_0 10))) #[true, true, false, false, false, false, false, false, false, false, false] (by kernel_rfl) hK ⟨_, hE.sel [] rfl rfl⟩ rfl (by kernel_rfl) (by kernel_rfl) (by kernel_rfl) (by kernel_rfl) (fun _ _ _ h => h) (ex_int rfl (fun _ => rfl) (fun _ => rfl) (by kernel_rfl) (fun W => run_quo (by decide) W)) rfl rfl rfl ?_; clear hK a; intro a hK; refine rh_take (i := 3) (d := 34) (v' := .int .i64 p_0) (vs := []) (obs := []) #[true, true, false, true, false, false, false, false, false, false, false] (by kernel_rfl) hK ⟨_, hE.sel [] rfl rfl⟩ rfl (by kernel_rfl) (by kernel_rfl) (by kernel_rfl) (by kernel_rfl) (fun _ _ _ h => h) (fun _ => by kernel_rfl) (fun _ _ _ => trivial) rfl rfl rfl ?_; clear hK a; intro a hK; refine rh_run (i := 4) (d := 35) (v' := .int .i64 (Int.tmod p_0 10)) #[true, true, false, true, true, false, false, false, false, false, false] (by kernel_rfl) hK ⟨_, hE.sel [] rfl rfl⟩ rfl (by kernel_rfl) (by kernel_rfl) (by kernel_rfl) (by kernel_rfl) (fun _ _ _ h => h) (ex_int rfl (fun _ => rfl) (fun _ => rfl) (by kernel_rfl) (fun W => run_rem (by decide) W)) rfl rfl rfl ?_; clear hK a; intro a hK; refine rh_take (i := 5) (d := 36) (v' := .int .i64 (IntKind.i64.wrap (48 + (Int.tmod p_0 10)))) (vs := []) (obs := []) #[true, true, false, true, true, true, false, false, false, false, false] (by kernel_rfl) hK ⟨_, hE.sel [] rfl rfl⟩ rfl (by kernel_rfl) (by kernel_rfl) (by kernel_rfl) (by kernel_rfl) (fun _ _ _ h => h) (fun _ => by kernel_rfl) (fun _ _ _ => trivial) rfl rfl rfl ?_; clear hK a; intro a hK; refine rh_take (i := 6) (d := 37) (v' := .int .u8 (IntKind.u8.wrap (IntKind.i64.wrap (48 + (Int.tmod p_0 10))))) (vs := []) (obs := []) #[true, true, false, true, true, true, true, false, false, false, false] (by kernel_rfl) hK ⟨_, hE.sel [] rfl rfl⟩ rfl (by kernel_rfl) (by kernel_rfl) (by kernel_rfl) (by kernel_rfl) (fun _ _ _ h => h) (fun _ => by kernel_rfl) (fun _ _ _ => trivial) rfl rfl rfl ?_; clear hK a; intro a hK; refine rh_all [2, 7] (by kernel_rfl) (by simp) ⟨?_, ?_, trivial⟩
    ·refine rh_call (d := 33) (f := 95) (args := #[.int .i64 (IntKind.i64.wrap (Int.tdiv p_0 10))]) rfl hK rfl (fun _ => by kernel_rfl) rfl rfl (ih (IntKind.i64.wrap (Int.tdiv p_0 10)) (fun g => g < _) _ (fun _ h => h) (hT.to hE.b)  _ hy_25) ?_; rintro e w_29 ⟨rfl, hb⟩; replace hE := hE.call hb; obtain ⟨S_30, hE⟩ : ∃ S, Es _ _ _ S _ := ⟨_, hE⟩; clear hb; refine ⟨_, rfl, ⟨_, hE.sel [] rfl rfl⟩, ?_⟩; clear hK a; intro a hK; refine rh_all [7] (by kernel_rfl) (by simp) ⟨?_, trivial⟩; refine rh_new (d := 38) (v := fun g => .slice (some ⟨g, 0, none⟩) 1 1) (cs := #[.int .u8 (IntKind.u8.wrap (IntKind.i64.wrap (48 + (Int.tmod p_0 10))))]) (t := 5) rfl hK hE rfl (fun _ _ => by kernel_rfl) rfl rfl ?_; clear hK hE a; intro a g_26 w_31 hK hE; refine ⟨⟨_, hE.sel [] rfl rfl⟩, ?_⟩; refine rh_all [8] (by kernel_rfl) (by simp) ⟨?_, trivial⟩; refine rh_op (d := 39) (v' := .string ⟨List.toArray ([UInt8.ofNat (Int.toNat (IntKind.u8.wrap (IntKind.i64.wrap (48 + (Int.tmod p_0 10)))))] : List UInt8)⟩) (vs := [.int .u8 (IntKind.u8.wrap (IntKind.i64.wrap (48 + (Int.tmod p_0 10))))]) (obs := [(⟨g_26, 0, none⟩, .int .u8 (IntKind.u8.wrap (IntKind.i64.wrap (48 + (Int.tmod p_0 10)))))]) rfl hK ⟨_, hE.sel [] rfl rfl⟩ rfl (fun _ => by kernel_rfl) ⟨((hE.blk 0 rfl).cell 0).trans rfl, trivial⟩ rfl rfl rfl ?_; clear hK a; intro a hK; refine rh_run (i := 9) (d := 40) (v' := .string ⟨List.toArray v_27⟩) #[true, true, true, true, true, true, true, true, true, true, false] (by kernel_rfl) hK ⟨_, hE.sel [] rfl rfl⟩ rfl (by kernel_rfl) (by kernel_rfl) (by kernel_rfl) (by kernel_rfl) (fun _ _ _ h => h) (ex_eq rfl (fun _ => rfl) (fun _ => rfl) (by kernel_rfl) (fun W => run_str_add hy_27 W)) rfl rfl rfl ?_; clear hK a; intro a hK; refine rh_take (i := 10) (d := 2) (v' := .string ⟨List.toArray v_27⟩) (vs := []) (obs := []) #[true, true, true, true, true, true, true, true, true, true, true] (by kernel_rfl) hK ⟨_, hE.sel [] rfl rfl⟩ rfl (by kernel_rfl) (by kernel_rfl) (by kernel_rfl) (by kernel_rfl) (fun _ _ _ h => h) (fun _ => by kernel_rfl) (fun _ _ _ => trivial) rfl rfl rfl ?_; clear hK a; intro a hK; refine wpAnyH_done (by kernel_rfl) ?_ _; refine xt_norm ?_; exact ⟨v_27, _, hK.weak ⟨rfl, trivial⟩, hE.sel [] rfl rfl, Option.some.inj hG⟩
    ·refine rh_new (d := 38) (v := fun g => .slice (some ⟨g, 0, none⟩) 1 1) (cs := #[.int .u8 (IntKind.u8.wrap (IntKind.i64.wrap (48 + (Int.tmod p_0 10))))]) (t := 5) rfl hK hE rfl (fun _ _ => by kernel_rfl) rfl rfl ?_; clear hK hE a; intro a g_26 w_32 hK hE; refine ⟨⟨_, hE.sel [] rfl rfl⟩, ?_⟩; refine rh_all [2, 8] (by kernel_rfl) (by simp) ⟨?_, ?_, trivial⟩
     ·refine rh_call (d := 33) (f := 95) (args := #[.int .i64 (IntKind.i64.wrap (Int.tdiv p_0 10))]) rfl hK rfl (fun _ => by kernel_rfl) rfl rfl (ih (IntKind.i64.wrap (Int.tdiv p_0 10)) (fun g => g < _) _ (fun _ h => h) (hT.to hE.b)  _ hy_25) ?_; rintro e w_33 ⟨rfl, hb⟩; replace hE := hE.call hb; obtain ⟨S_34, hE⟩ : ∃ S, Es _ _ _ S _ := ⟨_, hE⟩; clear hb; refine ⟨_, rfl, ⟨_, hE.sel [] rfl rfl⟩, ?_⟩; clear hK a; intro a hK; refine rh_all [8] (by kernel_rfl) (by simp) ⟨?_, trivial⟩; refine rh_op (d := 39) (v' := .string ⟨List.toArray ([UInt8.ofNat (Int.toNat (IntKind.u8.wrap (IntKind.i64.wrap (48 + (Int.tmod p_0 10)))))] : List UInt8)⟩) (vs := [.int .u8 (IntKind.u8.wrap (IntKind.i64.wrap (48 + (Int.tmod p_0 10))))]) (obs := [(⟨g_26, 0, none⟩, .int .u8 (IntKind.u8.wrap (IntKind.i64.wrap (48 + (Int.tmod p_0 10)))))]) rfl hK ⟨_, hE.sel [] rfl rfl⟩ rfl (fun _ => by kernel_rfl) ⟨((hE.blk 0 rfl).cell 0).trans rfl, trivial⟩ rfl rfl rfl ?_; clear hK a; intro a hK; refine rh_run (i := 9) (d := 40) (v' := .string ⟨List.toArray v_27⟩) #[true, true, true, true, true, true, true, true, true, true, false] (by kernel_rfl) hK ⟨_, hE.sel [] rfl rfl⟩ rfl (by kernel_rfl) (by kernel_rfl) (by kernel_rfl) (by kernel_rfl) (fun _ _ _ h => h) (ex_eq rfl (fun _ => rfl) (fun _ => rfl) (by kernel_rfl) (fun W => run_str_add hy_27 W)) rfl rfl rfl ?_; clear hK a; intro a hK; refine rh_take (i := 10) (d := 2) (v' := .string ⟨List.toArray v_27⟩) (vs := []) (obs := []) #[true, true, true, true, true, true, true, true, true, true, true] (by kernel_rfl) hK ⟨_, hE.sel [] rfl rfl⟩ rfl (by kernel_rfl) (by kernel_rfl) (by kernel_rfl) (by kernel_rfl) (fun _ _ _ h => h) (fun _ => by kernel_rfl) (fun _ _ _ => trivial) rfl rfl rfl ?_; clear hK a; intro a hK; refine wpAnyH_done (by kernel_rfl) ?_ _; refine xt_norm ?_; exact ⟨v_27, _, hK.weak ⟨rfl, trivial⟩, hE.sel [] rfl rfl, Option.some.inj hG⟩
     ·refine rh_op (d := 39) (v' := .string ⟨List.toArray ([UInt8.ofNat (Int.toNat (IntKind.u8.wrap (IntKind.i64.wrap (48 + (Int.tmod p_0 10)))))] : List UInt8)⟩) (vs := [.int .u8 (IntKind.u8.wrap (IntKind.i64.wrap (48 + (Int.tmod p_0 10))))]) (obs := [(⟨g_26, 0, none⟩, .int .u8 (IntKind.u8.wrap (IntKind.i64.wrap (48 + (Int.tmod p_0 10)))))]) rfl hK ⟨_, hE.sel [] rfl rfl⟩ rfl (fun _ => by kernel_rfl) ⟨((hE.blk 0 rfl).cell 0).trans rfl, trivial⟩ rfl rfl rfl ?_; clear hK a; intro a hK; refine rh_all [2] (by kernel_rfl) (by simp) ⟨?_, trivial⟩; refine rh_call (d := 33) (f := 95) (args := #[.int .i64 (IntKind.i64.wrap (Int.tdiv p_0 10))]) rfl hK rfl (fun _ => by kernel_rfl) rfl rfl (ih (IntKind.i64.wrap (Int.tdiv p_0 10)) (fun g => g < _) _ (fun _ h => h) (hT.to hE.b)  _ hy_25) ?_; rintro e w_35 ⟨rfl, hb⟩; replace hE := hE.call hb; obtain ⟨S_36, hE⟩ : ∃ S, Es _ _ _ S _ := ⟨_, hE⟩; clear hb; refine ⟨_, rfl, ⟨_, hE.sel [] rfl rfl⟩, ?_⟩; clear hK a; intro a hK; refine rh_run (i := 9) (d := 40) (v' := .string ⟨List.toArray v_27⟩) #[true, true, true, true, true, true, true, true, true, true, false] (by kernel_rfl) hK ⟨_, hE.sel [] rfl rfl⟩ rfl (by kernel_rfl) (by kernel_rfl) (by kernel_rfl) (by kernel_rfl) (fun _ _ _ h => h) (ex_eq rfl (fun _ => rfl) (fun _ => rfl) (by kernel_rfl) (fun W => run_str_add hy_27 W)) rfl rfl rfl ?_; clear hK a; intro a hK; refine rh_take (i := 10) (d := 2) (v' := .string ⟨List.toArray v_27⟩) (vs := []) (obs := []) #[true, true, true, true, true, true, true, true, true, true, true] (by kernel_rfl) hK ⟨_, hE.sel [] rfl rfl⟩ rfl (by kernel_rfl) (by kernel_rfl) (by kernel_rfl) (by kernel_rfl) (fun _ _ _ h => h) (fun _ => by kernel_rfl) (fun _ _ _ => trivial) rfl rfl rfl ?_; clear hK a; intro a hK; refine wpAnyH_done (by kernel_rfl) ?_ _; refine xt_norm ?_; exact ⟨v_27, _, hK.weak ⟨rfl, trivial⟩, hE.sel [] rfl rfl, Option.some.inj hG⟩
   ·clear hK hE a; rintro a w_39 ⟨v_38, S_40, hK, hE, ho_⟩; subst ho_; replace hG := hG_37; clear hG_37; refine wp_ret ?_; refine vc_ret (v' := .string ⟨List.toArray v_38⟩) (vs := []) (obs := []) hK (fun _ => by kernel_rfl) trivial rfl ?_; obtain rfl := Option.some.inj hG; exact ⟨rfl, hE.b⟩
end Go.Proofs.YtiijddjfiojfaaaDoor
namespace Go.Proofs.YtiijddjfiojfaaaDoor
open Go.RowKit
theorem apS_ok {a b : List UInt8} (h : a.length + b.length ≤ 9223372036854775807) : apS a b = some (a ++ b) := if_pos h
theorem dig_small {z : Int} (h0 : 0 ≤ z) (h1 : z < 10) : UInt8.ofNat (Int.toNat (IntKind.u8.wrap (IntKind.i64.wrap (48 + z)))) = UInt8.ofNat (48 + z.toNat) := by
 congr 1
 simp only [IntKind.wrap_i64, IntKind.wrap_u8]; omega
theorem decimal_eq : ∀ (F : Nat) (n : Int), -9223372036854775808 ≤ n → n ≤ 9223372036854775807 → n.natAbs < 10 ^ F → G_regulatorref03_Decimal (F + 1) n = some (Lib.itoa n) := by
 intro F
 induction F with
 | zero =>
  intro n h0 h1 h; have : n = 0 := by simp at h; omega
  subst this; rw [itoa_small (by omega) (by omega)]; rfl
 | succ F ih =>
  intro n h0 h1 h; have hp : 10 ^ (F + 1) = 10 * 10 ^ F := by rw [Nat.pow_succ, Nat.mul_comm]
  have len : ∀ z : Int, -9223372036854775808 ≤ z → z ≤ 9223372036854775807 → (Lib.itoa z).length ≤ 21 := fun z a b => by have := numL_len a b; simpa [numL] using this
  unfold G_regulatorref03_Decimal
  by_cases hn : n < 0
  ·rw [show decide (n < 0) = true from decide_eq_true hn]; have hw : IntKind.i64.wrap (Int.tdiv n 10) = -(-n / 10) := by rw [tdiv_neg (by omega), IntKind.wrap_i64]; omega
   simp only [ifB]; rw [hw]
   by_cases hs : -10 < n
   ·rw [show (-(-n / 10) == 0) = true from beq_iff_eq.2 (by omega)]; simp only []; rw [apS_ok (by simp), itoa_negs hn hs]; simp only [Option.bind, List.cons_append, List.nil_append]
    congr 3
    rw [show (48 - n) = 48 + (-n) by omega, dig_small (by omega) (by omega)]
    congr 1
    congr 1
    omega
   ·rw [show (-(-n / 10) == 0) = false from beq_eq_false_iff_ne.2 (by omega)]; simp only []; rw [ih _ (by omega) (by omega) (by omega)]; simp only [Option.bind]; rw [apS_ok (by have := len (-(-n / 10)) (by omega) (by omega); simp only [List.length_cons, List.length_nil]; omega), itoa_negb (n := n) (by omega)]; simp only; rw [tmod_neg (by omega), show (48 - -(-n % 10)) = 48 + (-n % 10) by omega, dig_small (by omega) (by omega), show (-n % 10).toNat = n.natAbs % 10 by omega]
  ·rw [show decide (n < 0) = false from decide_eq_false hn]; simp only [ifB]
   by_cases hs : n < 10
   ·rw [show decide (n < 10) = true from decide_eq_true hs]; simp only []; rw [dig_small (by omega) hs, itoa_small (by omega) hs]
   ·rw [show decide (n < 10) = false from decide_eq_false hs]; simp only []; have hw : IntKind.i64.wrap (Int.tdiv n 10) = n / 10 := by rw [Int.tdiv_eq_ediv_of_nonneg (by omega), IntKind.wrap_i64]; omega
    rw [hw, ih _ (by omega) (by omega) (by omega)]; simp only [Option.bind]; rw [apS_ok (by have := len (n / 10) (by omega) (by omega); simp only [List.length_cons, List.length_nil]; omega), itoa_big (n := n) (by omega)]; simp only; rw [Int.tmod_eq_emod_of_nonneg (by omega), dig_small (by omega) (by omega), show (n % 10).toNat = n.toNat % 10 by omega]
theorem decimal_any (z : Int) (h0 : -9223372036854775808 ≤ z) (h1 : z ≤ 9223372036854775807) (w0 w : World) (hT : Tb w0) (hb : Below w0.heap.size w0 w) : Calls Tryd.prog 95 #[.int .i64 z] w fun e w' => e = .returned (.string ⟨(Lib.itoa z).toArray⟩) ∧ Below w.heap.size w w' :=
 g_regulatorref03_Decimal 26 z (fun _ => False) w (fun _ h => h.elim) (hT.to hb) _ (decimal_eq 25 z h0 h1 (by omega))
set_option maxRecDepth 100000 in
set_option maxHeartbeats 4000000 in
theorem rText_any (zs : List Int) (B : Option Addr) (d : Nat) (w0 w : World) (hT : Tb w0) (hb0 : Below w0.heap.size w0 w) (hz : ∀ W, Below w.heap.size w W → KS .i64 W B zs) (hi : inI zs) (hzl : zs.length ≤ 100000) :
  Calls Tryd.prog 83 #[.slice B zs.length d] w fun e w' => ∃ v, e = .returned v ∧ OwnK .u8 5 w' w.heap.size v (textL zs) ∧ Below w.heap.size w w' := by
 obtain ⟨i0, hi0, hz0, hz1, hz2⟩ := info_parts infoB; have HT := hide hT; have HB0 := hide hb0; have HZ := hide hz; have HI := hide hi; have hsz0 := hb0.size; clear hT hb0 hz hi
 go_enter Tryd.func83, Tryd.ntmps83
 go_wp2
 go_loopw [3, 4] (fun u i wr => ∃ k : Nat, k ≤ zs.length ∧ i = .int .i64 k ∧ OwnK .u8 5 wr w.heap.size u (textL (zs.take k)) ∧ Below w.heap.size w wr) (fun _ i _ => zs.length - (intOf i).toNat)
 case atStart => exact ⟨0, Nat.zero_le _, rfl, by simpa [textL] using OwnK.nil, Below.refl _ _⟩
 case round =>
  obtain ⟨k, hk, rfl, ho, hb⟩ := hrel; have hsz := hb.size
  by_cases hlt : k < zs.length
  ·obtain ⟨b, o, rfl, hbl, hc⟩ := (HZ.out wr hb).at_ (i := k) hlt; have c0 := hc k hlt; have hr := HI.out zs[k] (List.getElem_mem hlt); have HC := hide hc; have hll := textL_len (l := zs.take k) (fun z hz => HI.out z (List.mem_of_mem_take hz)); have hll2 : (textL (zs.take k)).length ≤ 22 * zs.length := Nat.le_trans hll (Nat.mul_le_mul_left _ (by rw [List.length_take]; omega)); have hnl := numL_len hr.1 hr.2; obtain ⟨z, hzk⟩ : ∃ z, z = zs[k] := ⟨_, rfl⟩; rw [← hzk] at c0 hr hnl; have HSN := hide (show textL (zs.take (k + 1)) = textL (zs.take k) ++ numL z ++ [32] by rw [textL_take hlt, ← hzk]); have hr1 := hr.1; have hr2 := hr.2; have HO := hide ho; have HB := hide hb; have DA := hide (decimal_any z hr1 hr2 w0 wr HT.out (HB0.out.trans (hb.mono hsz0))); obtain ⟨L, hL⟩ : ∃ L, L = textL (zs.take k) := ⟨_, rfl⟩; obtain ⟨s, hs⟩ : ∃ s : ByteArray, s = ⟨(Lib.itoa z).toArray⟩ := ⟨_, rfl⟩; have hss : s.size ≤ 21 := by rw [hs]; simpa [ByteArray.size, numL] using hnl
   have hbs : Lib.strCells s = (numL z).map (Value.int .u8) := by rw [hs]; simp [Lib.strCells, numL]
   have hns : s.size = (numL z).length := by rw [hs]; simp [ByteArray.size, numL]
   rw [← hL] at HSN HO hll2; rw [← hs] at DA; have HBS := hide hbs; have HNS := hide hns; clear hc hzk hll hr ho hb hL hs hbs hns
   go_wp2_with (first
    | (go_at_call 95; with_reducible refine DA.out.mono ?_; rintro e w2 ⟨rfl, hb2⟩; have HB2 := hide (HB.out.trans (hb2.mono hsz)); have HO2 := hide (OwnK.below HO.out hb2); have hs2 := hb2.size; clear hb2)
    | (at_builtin; refine Lib.wpList_append_own_string _ rfl _ _ 112 9 rfl w.heap.size 5 i0 Tryd.underlying112 Tryd.underlying9 hi0 hz0 hz1 hz2 _ _ _ rfl HO2.out s rfl (by simp only [maxLen]; omega) (by omega) (by omega) ?_; intro v3 w3 hown3 hgrow3 _; have HO3 := hide (show OwnK .u8 5 w3 w.heap.size v3 (L ++ numL z) from OwnK.app hown3 (by have := HNS.out; simp only [List.length_append]; omega) (by rw [HBS.out])); have HB3 := hide (HB2.out.grown hgrow3 (by omega) (fun g hg => (own_lt HO2.out hg).1)); have hs3 := hgrow3.size; clear hown3 hgrow3)
    | (at_builtin; refine wpList_append_rd _ rfl _ _ 112 rfl w.heap.size 5 i0 _ 1 1 Tryd.underlying112 hi0 hz0 hz1 hz2 rfl (by decide) _ _ _ rfl (own_keep HO3.out (fun g hg => Below.heap_alloc _ _ g (own_lt HO3.out hg).2)) (some ⟨w3.heap.size, 0, none⟩) 1 1 [.int .u8 32] rfl rfl (Rd.new_row _ _ _) (by simp [Value.oneCell']) ?_ ?_ ?_ ?_))
   ·simp only [maxLen, List.length_append]; omega
   ·simp only [List.length_append]; omega
   ·simp; omega
   intro v' w6 hown' hgrow _; have b6 : Below w.heap.size w w6 := (HB3.out.alloc (by omega) _).grown hgrow (by simp; omega) (fun g hg => (own_lt HO3.out hg).1); have hown2 : OwnK .u8 5 w6 w.heap.size v' (textL (zs.take (k + 1))) := by
    rw [HSN.out]; exact OwnK.app (l' := [32]) hown' (by simp only [List.length_append, List.length_cons, List.length_nil]) (by simp)
   have HO6 := hide hown2; have HB6 := hide b6; clear hown' hgrow hown2 b6
   go_wp2
   go_roundw
   case rel => exact ⟨k + 1, by omega, by go_num, HO6.out, HB6.out⟩
   case measure => simp [intOf]; omega
  ·obtain rfl : k = zs.length := by omega
   rw [List.take_length] at ho; have HO6 := hide ho; have HB := hide hb; clear ho hb
   go_wp2
   go_ret
   exact ⟨_, rfl, HO6.out, HB.out⟩
theorem OwnK.low {k : IntKind} {e : TypeId} {w : World} {b1 b2 : Nat} {v : Value} {l : List Int} (h : OwnK k e w b1 v l) (hb : b2 ≤ b1) : OwnK k e w b2 v l := by
 refine ⟨h.1, ?_⟩; rcases h.2 with h2 | ⟨g, cap, cur, hv, hg, r⟩
 ·exact .inl h2
 ·exact .inr ⟨g, cap, cur, hv, Nat.le_trans hb hg, r⟩
def G_regulatorref03_Next : Nat → Int → (List Int) → Option Int
 | 0, _, _ => none
 | _ + 1, d, l => whenG (decide (inI l ∧ l.length ≤ 10000 ∧ 1 ≤ l.length)) (nextF d l)
set_option maxRecDepth 100000 in
set_option maxHeartbeats 4000000 in
theorem g_regulatorref03_Next (F : Nat) (n : Int) (A : Option Addr) (c : Nat) (l : List Int) (S0 : Nat → Prop) (w0 : World) (hS : ∀ g, S0 g → g < w0.heap.size) (hT : Tb w0) (h : RowS S0 w0 A (l.flatMap c_i64)) (hc : l.length ≤ c) (r : Int) (hG : G_regulatorref03_Next F n l = some r) :
  Calls Tryd.prog 60 #[.int .u64 n, .slice A l.length c] w0 fun e w' => e = .returned (.int .u64 r) ∧ Below w0.heap.size w0 w' := by
 cases F with
 | zero => cases hG
 | succ F =>
 obtain ⟨h1, rfl⟩ := whenG_some hG; obtain ⟨h2, h3, h4⟩ := of_decide_eq_true h1; have hlen := textL_len h2; obtain ⟨i0, hi0, hz0, hz1, hz2⟩ := info_parts infoB; obtain ⟨T, hTt⟩ : ∃ T, T = textL l := ⟨_, rfl⟩; obtain ⟨D, hD⟩ : ∃ D, D = octL n := ⟨_, rfl⟩; obtain ⟨L, hL⟩ : ∃ L, L = D ++ T := ⟨_, rfl⟩; have hTl : T.length ≤ 300000 := by rw [hTt]; omega
 have hDl : D.length = 8 := by rw [hD]; rfl
 have hLl : L.length ≤ 9223372036854775807 := by rw [hL, List.length_append]; omega
 have hR : nextF n l = sumB L := by rw [hL, hD, hTt]; rfl
 have T1 : Hid (∀ w, Below w0.heap.size w0 w → Calls Tryd.prog 83 #[.slice A l.length c] w fun e w' => ∃ v, e = .returned v ∧ OwnK .u8 5 w' w.heap.size v T ∧ Below w.heap.size w w') := by
  refine hide fun w hb => ?_
  rw [hTt]; exact rText_any l A c w0 w hT hb (fun W hW => ks_low hS h W (hb.trans (hW.mono hb.size))) h2 (by omega)
 have T0 : Hid (∀ w, Calls Tryd.prog 82 #[.int .u64 n] w fun e w' => ∃ v, e = .returned v ∧ OwnK .u8 5 w' w.heap.size v D ∧ Below w.heap.size w w') := by
  refine hide fun w => ?_
  rw [hD]; exact eight_any n w
 have HS := hide fun A c W s => rSum_any A c L W hLl s
 have HL := hide hL; have HTL := hide hTl; have HDL := hide hDl; have HLL := hide (show L.length = D.length + T.length by rw [hL, List.length_append]); rw [hR]; clear hG h1 h hS hT hlen h2 hL hLl hR h3 h4 hTt hD hTl hDl
 go_enter Tryd.func60, Tryd.ntmps60
 go_wp2_with (first
  | (go_at_call 82; with_reducible refine (T0.out _).mono ?_; rintro e w2 ⟨v2, rfl, ho2, hb2⟩; have O2 := hide ho2; have B2 := hide hb2; clear ho2 hb2)
  | (go_at_call 83; with_reducible refine (T1.out w2 B2.out).mono ?_; rintro e w3 ⟨v3, rfl, ho3, hb3⟩; have O3 := hide (OwnK.below O2.out hb3); have B3 := hide (B2.out.trans (hb3.mono B2.out.size)); obtain ⟨A3, c3, rfl, hl3, hm3, hk3⟩ := ho3.form; have K3 := hide hk3; clear ho3 hb3 hk3)
  | (at_builtin; refine wpList_append_rd _ rfl _ _ 112 rfl w0.heap.size 5 i0 _ 1 1 Tryd.underlying112 hi0 hz0 hz1 hz2 rfl (by decide) _ _ _ rfl O3.out A3 T.length c3 (T.map (Value.int .u8)) rfl (by simp) K3.out (by intro u hu; obtain ⟨b, _, rfl⟩ := List.mem_map.1 hu; rfl) (by have := HTL.out; have := HDL.out; simp only [maxLen]; omega) (by have := HTL.out; have := HDL.out; omega) B3.out.size ?_; intro v6 w6 hown6 hgrow6 _; have O6 := hide (show OwnK .u8 5 w6 w0.heap.size v6 L from HL.out ▸ OwnK.app hown6 (by simp only [List.length_append]) rfl); have B6 := hide (B3.out.grown hgrow6 B3.out.size (fun g hg => (own_lt O3.out hg).1)); obtain ⟨A6, c6, rfl, hl6, hm6, hk6⟩ := O6.out.form; have K6 := hide hk6; clear hown6 hgrow6 hk6)
  | (go_at_call 84; with_reducible refine (HS.out A6 c6 _ K6.out).mono ?_; rintro e w4 ⟨rfl, rfl⟩))
 go_ret
 exact ⟨rfl, B6.out⟩
def G_tree_Root : Nat → (List Int) → Option (Int × Int)
 | 0, _ => none
 | _ + 1, l => some (rootS l)
theorem g_tree_Root (F : Nat) (A : Option Addr) (c : Nat) (l : List Int) (S0 : Nat → Prop) (w0 : World) (hS : ∀ g, S0 g → g < w0.heap.size) (hT : Tb w0) (h : RowS S0 w0 A (l.flatMap c_u64)) (hc : l.length ≤ c) (r : Int × Int) (hG : G_tree_Root F l = some r) :
  Calls Tryd.prog 15 #[.slice A l.length c] w0 fun e w' => e = .returned (.tuple #[.int .u64 r.1, .int .i64 r.2]) ∧ Below w0.heap.size w0 w' := by
 cases F with
 | zero => cases hG
 | succ F =>
 obtain rfl := Option.some.inj hG; exact Root_any A c l w0 hc h.ks
def G_tree_Include : Nat → (List Int) → Int → Option (List Int × Int)
 | 0, _, _ => none
 | _ + 1, l, i => some (incS l i)
theorem g_tree_Include (F : Nat) (A : Option Addr) (c : Nat) (l : List Int) (i : Int) (S0 : Nat → Prop) (w0 : World) (hS : ∀ g, S0 g → g < w0.heap.size) (hT : Tb w0) (h : RowS S0 w0 A (l.flatMap c_u64)) (hc : l.length ≤ c) (r : List Int × Int) (hG : G_tree_Include F l i = some r) :
  Calls Tryd.prog 64 #[.slice A l.length c, .int .i64 i] w0 fun e w' => ∃ (q_0_A : Option Addr), ∃ (q_0_c : Nat), ∃ (q_0 : List Int), (r.1 = q_0) ∧ e = .returned (.tuple #[.slice q_0_A q_0.length q_0_c, .int .i64 r.2]) ∧ Below w0.heap.size w0 w' ∧ (RowS (ext S0 w0 w') w' q_0_A (q_0.flatMap c_u64)) ∧ (q_0.length ≤ q_0_c) := by
 cases F with
 | zero => cases hG
 | succ F =>
 obtain rfl := Option.some.inj hG; exact (Include_anyF A c l i w0 hc h.ks).mono fun e w' ⟨A1, c1, h1, h2, _, h4, h5⟩ => ⟨A1, c1, _, rfl, h1, h5, row_fresh h4.1 h4.2, h2⟩
def G_tree_Extend : Nat → (List Int) → Int → Option (List Int × Int)
 | 0, _, _ => none
 | _ + 1, l, i => some (extS l i)
theorem g_tree_Extend (F : Nat) (A : Option Addr) (c : Nat) (l : List Int) (i : Int) (S0 : Nat → Prop) (w0 : World) (hS : ∀ g, S0 g → g < w0.heap.size) (hT : Tb w0) (h : RowS S0 w0 A (l.flatMap c_u64)) (hc : l.length ≤ c) (r : List Int × Int) (hG : G_tree_Extend F l i = some r) :
  Calls Tryd.prog 17 #[.slice A l.length c, .int .i64 i] w0 fun e w' => ∃ (q_0_A : Option Addr), ∃ (q_0_c : Nat), ∃ (q_0 : List Int), (r.1 = q_0) ∧ e = .returned (.tuple #[.slice q_0_A q_0.length q_0_c, .int .i64 r.2]) ∧ Below w0.heap.size w0 w' ∧ (RowS (ext S0 w0 w') w' q_0_A (q_0.flatMap c_u64)) ∧ (q_0.length ≤ q_0_c) := by
 cases F with
 | zero => cases hG
 | succ F =>
 obtain rfl := Option.some.inj hG; exact (Extend_anyF A c l i w0 hc h.ks).mono fun e w' ⟨A1, c1, h1, h2, _, h4, h5⟩ => ⟨A1, c1, _, rfl, h1, h5, row_fresh h4.1 h4.2, h2⟩
def G_tree_Included : Nat → Int → Int → Int → Int → (List Int) → Option Bool
 | 0, _, _, _, _, _ => none
 | _ + 1, root, leaf, i, n, path => whenG (decide (path.length ≤ 9223372036854775807)) (inclS root leaf i n path)
theorem g_tree_Included (F : Nat) (root leaf i n : Int) (A : Option Addr) (c : Nat) (path : List Int) (S0 : Nat → Prop) (w0 : World) (hS : ∀ g, S0 g → g < w0.heap.size) (hT : Tb w0) (h : RowS S0 w0 A (path.flatMap c_u64)) (hc : path.length ≤ c) (r : Bool) (hG : G_tree_Included F root leaf i n path = some r) :
  Calls Tryd.prog 79 #[.int .u64 root, .int .u64 leaf, .int .i64 i, .int .i64 n, .slice A path.length c] w0 fun e w' => e = .returned (.bool r) ∧ Below w0.heap.size w0 w' := by
 cases F with
 | zero => cases hG
 | succ F =>
 obtain ⟨h1, rfl⟩ := whenG_some hG; exact included_any root leaf i n A c path w0 (of_decide_eq_true h1) h.ks
def G_tree_Extended : Nat → Int → Int → Int → Int → (List Int) → Option Bool
 | 0, _, _, _, _, _ => none
 | _ + 1, a, b, m, n, path => whenG (decide (path.length ≤ 1000)) (growS a b m n path)
theorem g_tree_Extended (F : Nat) (a b m n : Int) (A : Option Addr) (c : Nat) (path : List Int) (S0 : Nat → Prop) (w0 : World) (hS : ∀ g, S0 g → g < w0.heap.size) (hT : Tb w0) (h : RowS S0 w0 A (path.flatMap c_u64)) (hc : path.length ≤ c) (r : Bool) (hG : G_tree_Extended F a b m n path = some r) :
  Calls Tryd.prog 21 #[.int .u64 a, .int .u64 b, .int .i64 m, .int .i64 n, .slice A path.length c] w0 fun e w' => e = .returned (.bool r) ∧ Below w0.heap.size w0 w' := by
 cases F with
 | zero => cases hG
 | succ F =>
 obtain ⟨h1, rfl⟩ := whenG_some hG; exact Extended_any a b m n A c path w0 (of_decide_eq_true h1) hc h.ks
def G_regulatorref24_Leaf : Nat → Int → Option Int
 | 0, _ => none
 | _ + 1, d => some (leafF d)
theorem g_regulatorref24_Leaf (F : Nat) (d : Int) (S0 : Nat → Prop) (w0 : World) (hS : ∀ g, S0 g → g < w0.heap.size) (hT : Tb w0) (r : Int) (hG : G_regulatorref24_Leaf F d = some r) :
  Calls Tryd.prog 24 #[.int .u64 d] w0 fun e w' => e = .returned (.int .u64 r) ∧ Below w0.heap.size w0 w' := by
 cases F with
 | zero => cases hG
 | succ F =>
 obtain rfl := Option.some.inj hG; exact rLeaf_any d w0
end Go.Proofs.YtiijddjfiojfaaaDoor
namespace Go.Proofs.YtiijddjfiojfaaaDoor
open Go.RowKit Go.Maps
theorem z_digest_Ints (F : Nat) (p_0_A : Option Addr) (p_0_c : Nat) (p_0 : List Int) (r : Int) (hG : G_digest_Ints F p_0 = some r) :
  Cf Tryd.prog 33 [.slice p_0_A p_0.length p_0_c] [RowC p_0_A p_0_c c_i64 tr p_0] (U r) := fun S0 w0 hS hT h => g_digest_Ints F p_0_A p_0_c p_0 S0 w0 hS hT h.1.r h.1.c r hG
theorem z_digest_Next (F : Nat) (p_0 : Int) (p_1_A : Option Addr) (p_1_c : Nat) (p_1 : List Int) (r : Int) (hG : G_digest_Next F p_0 p_1 = some r) :
  Cf Tryd.prog 89 [U p_0, .slice p_1_A p_1.length p_1_c] [RowC p_1_A p_1_c c_i64 tr p_1] (U r) := fun S0 w0 hS hT h => g_digest_Next F p_0 p_1_A p_1_c p_1 S0 w0 hS hT h.1.r h.1.c r hG
theorem z_regulatorref03_Next (F : Nat) (p_0 : Int) (p_1_A : Option Addr) (p_1_c : Nat) (p_1 : List Int) (r : Int) (hG : G_regulatorref03_Next F p_0 p_1 = some r) :
  Cf Tryd.prog 60 [U p_0, .slice p_1_A p_1.length p_1_c] [RowC p_1_A p_1_c c_i64 tr p_1] (U r) := fun S0 w0 hS hT h => g_regulatorref03_Next F p_0 p_1_A p_1_c p_1 S0 w0 hS hT h.1.r h.1.c r hG
theorem z_tree_Root (F : Nat) (p_0_A : Option Addr) (p_0_c : Nat) (p_0 : List Int) (r : Int × Int) (hG : G_tree_Root F p_0 = some r) :
  Cf Tryd.prog 15 [.slice p_0_A p_0.length p_0_c] [RowC p_0_A p_0_c c_u64 tr p_0] (.tuple #[U r.1, I r.2]) := fun S0 w0 hS hT h => g_tree_Root F p_0_A p_0_c p_0 S0 w0 hS hT h.1.r h.1.c r hG
theorem z_tree_Include (F : Nat) (p_0_A : Option Addr) (p_0_c : Nat) (p_0 : List Int) (p_1 : Int) (r : (List Int) × Int) (hG : G_tree_Include F p_0 p_1 = some r) :
  Cn Tryd.prog 64 [.slice p_0_A p_0.length p_0_c, I p_1] [RowC p_0_A p_0_c c_u64 tr p_0] (fun q : KSuint64L => r.1 = q.l) (fun q => .tuple #[.slice q.A q.l.length q.c, I r.2]) (fun q => [RowC q.A q.c c_u64 tr q.l]) := fun S0 w0 hS hT h => (g_tree_Include F p_0_A p_0_c p_0 p_1 S0 w0 hS hT h.1.r h.1.c r hG).mono fun e w' ⟨A, c, l, hq, he, hb, hr, hc⟩ => ⟨⟨A, c, l⟩, hq, he, hb, ⟨hr, hc, fun _ _ => trivial⟩, trivial⟩
theorem z_tree_Extend (F : Nat) (p_0_A : Option Addr) (p_0_c : Nat) (p_0 : List Int) (p_1 : Int) (r : (List Int) × Int) (hG : G_tree_Extend F p_0 p_1 = some r) :
  Cn Tryd.prog 17 [.slice p_0_A p_0.length p_0_c, I p_1] [RowC p_0_A p_0_c c_u64 tr p_0] (fun q : KSuint64L => r.1 = q.l) (fun q => .tuple #[.slice q.A q.l.length q.c, I r.2]) (fun q => [RowC q.A q.c c_u64 tr q.l]) := fun S0 w0 hS hT h => (g_tree_Extend F p_0_A p_0_c p_0 p_1 S0 w0 hS hT h.1.r h.1.c r hG).mono fun e w' ⟨A, c, l, hq, he, hb, hr, hc⟩ => ⟨⟨A, c, l⟩, hq, he, hb, ⟨hr, hc, fun _ _ => trivial⟩, trivial⟩
theorem z_tree_Included (F : Nat) (p_0 : Int) (p_1 : Int) (p_2 : Int) (p_3 : Int) (p_4_A : Option Addr) (p_4_c : Nat) (p_4 : List Int) (r : Bool) (hG : G_tree_Included F p_0 p_1 p_2 p_3 p_4 = some r) :
  Cf Tryd.prog 79 [U p_0, U p_1, I p_2, I p_3, .slice p_4_A p_4.length p_4_c] [RowC p_4_A p_4_c c_u64 tr p_4] (B r) := fun S0 w0 hS hT h => g_tree_Included F p_0 p_1 p_2 p_3 p_4_A p_4_c p_4 S0 w0 hS hT h.1.r h.1.c r hG
theorem z_tree_Extended (F : Nat) (p_0 : Int) (p_1 : Int) (p_2 : Int) (p_3 : Int) (p_4_A : Option Addr) (p_4_c : Nat) (p_4 : List Int) (r : Bool) (hG : G_tree_Extended F p_0 p_1 p_2 p_3 p_4 = some r) :
  Cf Tryd.prog 21 [U p_0, U p_1, I p_2, I p_3, .slice p_4_A p_4.length p_4_c] [RowC p_4_A p_4_c c_u64 tr p_4] (B r) := fun S0 w0 hS hT h => g_tree_Extended F p_0 p_1 p_2 p_3 p_4_A p_4_c p_4 S0 w0 hS hT h.1.r h.1.c r hG
theorem z_regulatorref24_Leaf (F : Nat) (p_0 : Int) (r : Int) (hG : G_regulatorref24_Leaf F p_0 = some r) :
  Cf Tryd.prog 24 [U p_0] [] (U r) := fun S0 w0 hS hT h => g_regulatorref24_Leaf F p_0 S0 w0 hS hT  r hG
end Go.Proofs.YtiijddjfiojfaaaDoor
namespace Go.Proofs.YtiijddjfiojfaaaDoor
open Go.RowKit Go.Maps
def G_cross_Digest (F : Nat) (p_0 : KHead) : Option (Int) :=
 Option.bind (G_digest_Ints F ([p_0.Office, p_0.Size, IntKind.i64.wrap (Int.fdiv p_0.Root (2 ^ 32)), IntKind.i64.wrap (bits BinOp.and IntKind.u64 p_0.Root 4294967295), p_0.Sig.C, p_0.Sig.S] : List Int)) (fun v_3 =>
 some v_3)
set_option maxRecDepth 100000 in
set_option maxHeartbeats 16000000 in
theorem z_cross_Digest (F : Nat) (p_0 : KHead) (r : Int) (hG : G_cross_Digest F p_0 = some r) :
  Cf Tryd.prog 11 [.agg #[I p_0.Office, I p_0.Size, U p_0.Root, I p_0.Sig.C, I p_0.Sig.S]] [] (U r) := by
 unfold G_cross_Digest at hG; refine fi Tryd.func11 rfl rfl m0 fun S0 w0 hT => ?_
 refine sq ?_; refine rg ?_; refine l1 ?_; refine nw 1 vp [I p_0.Office, I p_0.Size, U p_0.Root, I p_0.Sig.C, I p_0.Sig.S] 29 fun g_1 => ?_
 refine ra [] f0 [] ?_; refine tN ?_; refine sq ?_; replace hG := bind_some hG; obtain ⟨v_3, hy_3, hG⟩ := hG; refine rg ?_; refine rn 18 [(1, 1, 0, 0), (1, 1, 0, 1), (1, 1, 0, 2), (3, 1, 0, 2), (4, 1, 0, 3), (2, 1, 0, 4)] f0 [(4, I p_0.Office), (6, I p_0.Size), (10, I (IntKind.i64.wrap (Int.fdiv p_0.Root (2 ^ 32)))), (14, I (IntKind.i64.wrap (bits BinOp.and IntKind.u64 p_0.Root 4294967295))), (17, I p_0.Sig.C), (20, I p_0.Sig.S)] ?_; refine l1 ?_; refine nw 21 (vs 6) [I p_0.Office, I p_0.Size, I (IntKind.i64.wrap (Int.fdiv p_0.Root (2 ^ 32))), I (IntKind.i64.wrap (bits BinOp.and IntKind.u64 p_0.Root 4294967295)), I p_0.Sig.C, I p_0.Sig.S] 3 fun g_2 => ?_
 refine l1 ?_; refine cl 22 (z_digest_Ints F (some ⟨g_2, 0, none⟩) 6 ([p_0.Office, p_0.Size, IntKind.i64.wrap (Int.fdiv p_0.Root (2 ^ 32)), IntKind.i64.wrap (bits BinOp.and IntKind.u64 p_0.Root 4294967295), p_0.Sig.C, p_0.Sig.S] : List Int) _ hy_3) hT ⟨ba 0 et.a, trivial⟩ ?_; refine ra [] f0 [(2, U v_3)] ?_; refine tN ?_; refine kR ?_; obtain rfl := Option.some.inj hG; exact rt []
def G_group_power (F : Nat) (p_0 : Int) (p_1 : Int) : Option (Int) :=
  Option.bind (Option.bind (iter (σ := Int × Int × Int) (ρ := Int) (un3 fun (v_18 : Int) (v_19 : Int) (v_20 : Int) => 
        (ifB (decide (v_18 > 0))
          (Option.bind (ifB (((bits BinOp.and IntKind.i64 v_18 1) == 1))
              (Option.bind (some () : Option (Unit)) (fun (_ : Unit) => 
                some (Int.tmod (IntKind.i64.wrap (v_20 * v_19)) 2147483579)))
              (some v_20) : Option (Int)) (fun (v_26 : Int) => 
            Option.bind (some () : Option (Unit)) (fun (_ : Unit) => 
              some (.inl (Int.fdiv v_18 (2 ^ 1), Int.tmod (IntKind.i64.wrap (v_19 * v_19)) 2147483579, v_26)))))
          (some (.inr v_20)) : Option ((Int × Int × Int) ⊕ Int))) F (p_1, p_0, 1)) (fun (v_28 : Int) => 
      some v_28) : Option (Int)) (fun (v_30 : Int) => 
    some v_30)
set_option maxRecDepth 100000 in
set_option maxHeartbeats 16000000 in
theorem z_group_power (F : Nat) (p_0 : Int) (p_1 : Int) (r : Int) (hG : G_group_power F p_0 p_1 = some r) :
  Cf Tryd.prog 70 [I p_0, I p_1] [] (I r) := by
 unfold G_group_power at hG; refine fi Tryd.func70 rfl rfl m0 fun S0 w0 hT => ?_
 refine sq ?_; refine rg ?_; refine l1 ?_; refine nw 2 vp [I p_0] 3 fun g_1 => ?_
 refine ra [] f0 [] ?_; refine tN ?_; refine sq ?_; refine rg ?_; refine l1 ?_; refine nw 5 vp [I 0] 3 fun g_2 => ?_
 refine l1 ?_; refine sr 0 g_2 [(0, I 1)] ?_; refine nl ?_; refine tN ?_; refine sq ?_; refine rg ?_; refine ra [] f0 [(6, .func (.func 88) #[] #[])] ?_; refine tN ?_; obtain ⟨o_29, hG, hG_29⟩ := bind_some hG; refine jn (fun K E a w => ∃ (v_30 : Int), Js S0 w0 21 (dk [1] K) ([.blk g_2 3 [I v_30]]) (v_30 = o_29) a w) ?_ ?_
 ·refine bk ?_; obtain ⟨e_21, hL, hG_21⟩ := bind_some hG; clear hG; obtain ⟨stp_21, hs_21, hL⟩ := iter_gen hL; refine lp (fun K E n_ a w => ∃ (v_18 : Int), ∃ (v_19 : Int), ∃ (v_20 : Int), Js S0 w0 21 ([(1, I v_18)] ++ K) ([.blk g_1 3 [I v_19], .blk g_2 3 [I v_20]]) (iter stp_21 n_ (v_18, v_19, v_20) = some e_21) a w) F ?_ ?_
  ·exact fun a w S hK hE => ⟨p_1, p_0, 1, S, hK.wk, hE.sel [1, 0], hL⟩
  ·clear hL; rintro n_21 a w ⟨v_18, v_19, v_20, hJ⟩; refine hJ.go fun hL => ?_
   clear hJ; obtain ⟨m_21, o_21, rfl, hG, hO1_21, hO2_21⟩ := iter_step hL; clear hL; rw [hs_21] at hG; refine sq ?_; refine sq ?_; refine rg ?_; refine ra [] f0 [(8, B (decide (v_18 > 0)))] ?_; refine tN ?_; rcases ifB_cases hG with ⟨h_22, hG⟩ | ⟨h_22, hG⟩
   ·refine sb 8 (bt h_22) ?_; refine ct ?_; refine kS ?_; refine tN ?_; refine sq ?_; refine bk ?_; obtain ⟨o_25, hG, hG_25⟩ := bind_some hG; refine jn (fun K E a w => ∃ (v_26 : Int), Js S0 w0 21 (K) ([.blk g_2 3 [I v_26]] ++ se E [0]) (v_26 = o_25) a w) ?_ ?_
    ·refine sq ?_; refine rg ?_; refine ra [] f0 [(13, B ((bits BinOp.and IntKind.i64 v_18 1) == 1))] ?_; refine tN ?_; rcases ifB_cases hG with ⟨h_23, hG⟩ | ⟨h_23, hG⟩
     ·refine sb 13 (bt h_23) ?_; refine ct ?_; replace hG := bind_some hG; obtain ⟨⟨⟩, hy_24, hG⟩ := hG; refine rg ?_; refine rn 2 [(1, 1, 0, 0)] f0 [(14, .func (.func 88) #[] #[]), (15, I v_19)] ?_; refine l1 ?_; refine ci 16 (args := [Pt g_2 0, I v_19]) (fun E e w => Rs S0 w0 (.tuple #[]) ([.blk g_2 3 [I (Int.tmod (IntKind.i64.wrap (v_20 * v_19)) 2147483579)]] ++ se E [0]) (() = ()) e w) Tryd.func88 rfl rfl ?_ ?_
      ·replace hG := hy_24; refine rg ?_; refine rn 8 [(3, 1, 1, 0), (2, 0, 0, 0)] (fc (fun W => run_rem (T := 3) (k := .i64) (p := IntKind.i64.wrap (v_20 * v_19)) (q := 2147483579) (by decide) W) f0) [(10, I (Int.tmod (IntKind.i64.wrap (v_20 * v_19)) 2147483579)), (11, Pt g_2 0)] ?_; refine l1 ?_; refine sr 1 g_2 [(0, I (Int.tmod (IntKind.i64.wrap (v_20 * v_19)) 2147483579))] ?_; refine nl ?_; refine fall ?_; refine ri [] (.tuple #[]) ?_; exact fun a w S hK hE => ⟨rfl, ⟨S, hE.sel [1, 0]⟩, Option.some.inj hG⟩
      ·rintro e w hJ; refine hJ.go fun ho_ => ?_
       clear hJ; refine nl ?_; refine tN ?_; exact fun a w S hK hE => ⟨Int.tmod (IntKind.i64.wrap (v_20 * v_19)) 2147483579, S, hK.wk, hE.sel [0, 1], Option.some.inj hG⟩
     ·refine sb 13 (bf h_23) ?_; refine cf ?_; refine kS ?_; refine tN ?_; exact fun a w S hK hE => ⟨v_20, S, hK.wk, hE.sel [1, 0], Option.some.inj hG⟩
    ·rintro a w ⟨v_26, hJ⟩; refine hJ.go fun ho_ => ?_
     clear hJ; subst ho_; replace hG := hG_25; replace hG := bind_some hG; obtain ⟨⟨⟩, hy_27, hG⟩ := hG; refine rg ?_; refine rn 2 [(1, 1, 1, 0)] f0 [(17, .func (.func 88) #[] #[]), (18, I v_19)] ?_; refine l1 ?_; refine ci 19 (args := [Pt g_1 0, I v_19]) (fun E e w => Rs S0 w0 (.tuple #[]) ([.blk g_1 3 [I (Int.tmod (IntKind.i64.wrap (v_19 * v_19)) 2147483579)]] ++ se E [0]) (() = ()) e w) Tryd.func88 rfl rfl ?_ ?_
     ·replace hG := hy_27; refine rg ?_; refine rn 8 [(3, 1, 1, 0), (2, 0, 0, 0)] (fc (fun W => run_rem (T := 3) (k := .i64) (p := IntKind.i64.wrap (v_19 * v_19)) (q := 2147483579) (by decide) W) f0) [(10, I (Int.tmod (IntKind.i64.wrap (v_19 * v_19)) 2147483579)), (11, Pt g_1 0)] ?_; refine l1 ?_; refine sr 1 g_1 [(0, I (Int.tmod (IntKind.i64.wrap (v_19 * v_19)) 2147483579))] ?_; refine nl ?_; refine fall ?_; refine ri [] (.tuple #[]) ?_; exact fun a w S hK hE => ⟨rfl, ⟨S, hE.sel [1, 0]⟩, Option.some.inj hG⟩
     ·rintro e w hJ; refine hJ.go fun ho_ => ?_
      clear hJ; refine nl ?_; refine hN ?_; refine tN ?_; refine rg ?_; refine ra [] f0 [(1, I (Int.fdiv v_18 (2 ^ 1)))] ?_; refine tN ?_; exact fun a w S hK hE => ⟨m_21, ⟨Int.fdiv v_18 (2 ^ 1), Int.tmod (IntKind.i64.wrap (v_19 * v_19)) 2147483579, v_26, S, hK.wk, hE.sel [0, 1], hO1_21 _ (Option.some.inj hG).symm⟩, Nat.lt_succ_self _⟩
   ·refine sb 8 (bf h_22) ?_; refine cf ?_; refine kX ?_; refine tX ?_; refine tX ?_; have he_ := hO2_21 _ (Option.some.inj hG).symm; subst he_; replace hG := hG_21; refine hH ?_; refine tN ?_; exact fun a w S hK hE => ⟨v_20, S, hK.wk, hE.sel [1], Option.some.inj hG⟩
 ·rintro a w ⟨v_30, hJ⟩; refine hJ.go fun ho_ => ?_
  clear hJ; subst ho_; replace hG := hG_29; refine sq ?_; refine rg ?_; refine ra [(0, 1, 0, 0)] f0 [(4, I v_30)] ?_; refine tN ?_; refine kR ?_; obtain rfl := Option.some.inj hG; exact rt []
def G_group_challenge (F : Nat) (p_0 : Int) (p_1 : Int) (p_2 : List Int) : Option (Int) :=
 Option.bind (apG 8 ([p_0, p_1] : List Int) p_2) (fun v_2 =>
 Option.bind (G_digest_Ints F v_2) (fun v_3 =>
 some (IntKind.i64.wrap (Int.tmod v_3 1073741789))))
set_option maxRecDepth 100000 in
set_option maxHeartbeats 16000000 in
theorem z_group_challenge (F : Nat) (p_0 : Int) (p_1 : Int) (p_2_A : Option Addr) (p_2_c : Nat) (p_2 : List Int) (r : Int) (hG : G_group_challenge F p_0 p_1 p_2 = some r) :
  Cf Tryd.prog 69 [I p_0, I p_1, .slice p_2_A p_2.length p_2_c] [RowC p_2_A p_2_c c_i64 tr p_2] (I r) := by
 unfold G_group_challenge at hG; refine fi Tryd.func69 rfl rfl (mr tr_mv m0) fun S0 w0 hT => ?_
 refine sq ?_; refine rg ?_; refine ra [] f0 [] ?_; refine tN ?_; refine sq ?_; replace hG := bind_some hG; obtain ⟨v_2, hy_2, hG⟩ := hG; refine rg ?_; refine rn 2 [] f0 [(8, I p_0), (9, I p_1)] ?_; refine l1 ?_; refine nw 10 (vs 2) [I p_0, I p_1] 3 fun g_1 => ?_
 refine rn 1 [] f0 [(11, .slice p_2_A p_2.length p_2_c)] ?_; refine bo 0 1 2 g_1 3 [I p_0, I p_1] ?_; refine l1 ?_; refine ap 0 12 (some ⟨g_1, 0, none⟩) 2 ([p_0, p_1] : List Int) p_2 inf62 ((gd' (RowC p_2_A p_2_c c_i64 tr p_2) 1).a) hy_2 one_i64 fun v_2_A v_2_c _ => ?_
 refine ra [] f0 [(7, .slice v_2_A v_2.length v_2_c)] ?_; refine tN ?_; refine sq ?_; replace hG := bind_some hG; obtain ⟨v_3, hy_3, hG⟩ := hG; refine rg ?_; refine rn 1 [] f0 [(13, .slice v_2_A v_2.length v_2_c)] ?_; refine l1 ?_; refine cl 14 (z_digest_Ints F v_2_A v_2_c v_2 _ hy_3) hT ⟨oa 0 et.a, trivial⟩ ?_; refine ra [(0, 0, 0, 0)] (fc (fun W => run_rem (T := 25) (k := .u64) (p := v_3) (q := 1073741789) (by decide) W) f0) [(6, I (IntKind.i64.wrap (Int.tmod v_3 1073741789)))] ?_; refine tN ?_; refine kR ?_; obtain rfl := Option.some.inj hG; exact rt []
def G_group_within (F : Nat) (p_0 : Int) (p_1 : Int) : Option (Bool) :=
  Option.bind (ifB (decide (p_1 ≤ p_0))
      (some (decide (p_0 < 1073741789)))
      (some false) : Option (Bool)) (fun (v_3 : Bool) => 
    some v_3)
set_option maxRecDepth 100000 in
set_option maxHeartbeats 16000000 in
theorem z_group_within (F : Nat) (p_0 : Int) (p_1 : Int) (r : Bool) (hG : G_group_within F p_0 p_1 = some r) :
  Cf Tryd.prog 68 [I p_0, I p_1] [] (B r) := by
 unfold G_group_within at hG; refine fi Tryd.func68 rfl rfl m0 fun S0 w0 hT => ?_
 refine sq ?_; refine rg ?_; refine ra [] f0 [] ?_; refine tN ?_; obtain ⟨o_2, hG, hG_2⟩ := bind_some hG; refine jn (fun K E a w => ∃ (v_3 : Bool), Js S0 w0 12 ([(4, B v_3)] ++ K) (se E []) (v_3 = o_2) a w) ?_ ?_
 ·replace hG := ifB_cases hG; rcases hG with ⟨h_1, hG⟩ | ⟨h_1, hG⟩
  ·refine rg ?_; refine rn 4 [] f0 [(8, B (decide (p_1 ≤ p_0)))] ?_; refine sb 8 (bt h_1) ?_; refine ra [] f0 [(4, B (decide (p_0 < 1073741789)))] ?_; refine tN ?_; exact fun a w S hK hE => ⟨decide (p_0 < 1073741789), S, hK.wk, hE.sel [], Option.some.inj hG⟩
  ·refine rg ?_; refine rn 4 [] f0 [(8, B (decide (p_1 ≤ p_0)))] ?_; refine sb 8 (bf h_1) ?_; refine ra [] f0 [(4, B false)] ?_; refine tN ?_; exact fun a w S hK hE => ⟨false, S, hK.wk, hE.sel [], Option.some.inj hG⟩
 ·rintro a w ⟨v_3, hJ⟩; refine hJ.go fun ho_ => ?_
  clear hJ; subst ho_; replace hG := hG_2; refine kR ?_; obtain rfl := Option.some.inj hG; exact rt []
def G_office_between (F : Nat) (p_0 : Int) (p_1 : Int) (p_2 : Int) : Option (Bool) :=
  Option.bind (ifB (decide (p_1 ≤ p_0))
      (some (decide (p_0 ≤ p_2)))
      (some false) : Option (Bool)) (fun (v_3 : Bool) => 
    some v_3)
set_option maxRecDepth 100000 in
set_option maxHeartbeats 16000000 in
theorem z_office_between (F : Nat) (p_0 : Int) (p_1 : Int) (p_2 : Int) (r : Bool) (hG : G_office_between F p_0 p_1 p_2 = some r) :
  Cf Tryd.prog 35 [I p_0, I p_1, I p_2] [] (B r) := by
 unfold G_office_between at hG; refine fi Tryd.func35 rfl rfl m0 fun S0 w0 hT => ?_
 refine sq ?_; refine rg ?_; refine ra [] f0 [] ?_; refine tN ?_; obtain ⟨o_2, hG, hG_2⟩ := bind_some hG; refine jn (fun K E a w => ∃ (v_3 : Bool), Js S0 w0 15 ([(6, B v_3)] ++ K) (se E []) (v_3 = o_2) a w) ?_ ?_
 ·replace hG := ifB_cases hG; rcases hG with ⟨h_1, hG⟩ | ⟨h_1, hG⟩
  ·refine rg ?_; refine rn 4 [] f0 [(10, B (decide (p_1 ≤ p_0)))] ?_; refine sb 10 (bt h_1) ?_; refine ra [] f0 [(6, B (decide (p_0 ≤ p_2)))] ?_; refine tN ?_; exact fun a w S hK hE => ⟨decide (p_0 ≤ p_2), S, hK.wk, hE.sel [], Option.some.inj hG⟩
  ·refine rg ?_; refine rn 4 [] f0 [(10, B (decide (p_1 ≤ p_0)))] ?_; refine sb 10 (bf h_1) ?_; refine ra [] f0 [(6, B false)] ?_; refine tN ?_; exact fun a w S hK hE => ⟨false, S, hK.wk, hE.sel [], Option.some.inj hG⟩
 ·rintro a w ⟨v_3, hJ⟩; refine hJ.go fun ho_ => ?_
  clear hJ; subst ho_; replace hG := hG_2; refine kR ?_; obtain rfl := Option.some.inj hG; exact rt []
def G_office_message (F : Nat) (p_0 : KHead) : Option ((List Int)) :=
 some ([p_0.Office, p_0.Size, IntKind.i64.wrap (Int.fdiv p_0.Root (2 ^ 32)), IntKind.i64.wrap (IntKind.u32.wrap p_0.Root)] : List Int)
set_option maxRecDepth 100000 in
set_option maxHeartbeats 16000000 in
theorem z_office_message (F : Nat) (p_0 : KHead) (r : (List Int)) (hG : G_office_message F p_0 = some r) :
  Cn Tryd.prog 38 [.agg #[I p_0.Office, I p_0.Size, U p_0.Root, I p_0.Sig.C, I p_0.Sig.S]] [] (fun q : KSintL => r = q.l) (fun q => .slice q.A q.l.length q.c) (fun q => [RowC q.A q.c c_i64 tr q.l]) := by
 unfold G_office_message at hG; refine fin Tryd.func38 rfl rfl m0 fun S0 w0 hT => ?_
 refine sq ?_; refine rg ?_; refine l1 ?_; refine nw 1 vp [I p_0.Office, I p_0.Size, U p_0.Root, I p_0.Sig.C, I p_0.Sig.S] 29 fun g_1 => ?_
 refine ra [] f0 [] ?_; refine tN ?_; refine sq ?_; refine rg ?_; refine rn 12 [(1, 1, 0, 0), (1, 1, 0, 1), (1, 1, 0, 2), (3, 1, 0, 2)] f0 [(4, I p_0.Office), (6, I p_0.Size), (10, I (IntKind.i64.wrap (Int.fdiv p_0.Root (2 ^ 32)))), (14, I (IntKind.i64.wrap (IntKind.u32.wrap p_0.Root)))] ?_; refine l1 ?_; refine nw 15 (vs 4) [I p_0.Office, I p_0.Size, I (IntKind.i64.wrap (Int.fdiv p_0.Root (2 ^ 32))), I (IntKind.i64.wrap (IntKind.u32.wrap p_0.Root))] 3 fun g_2 => ?_
 refine ra [] f0 [(2, Sb g_2 4 4)] ?_; refine tN ?_; refine kR ?_; obtain rfl := Option.some.inj hG; refine sB 0 g_2 c_i64 tr ([p_0.Office, p_0.Size, IntKind.i64.wrap (Int.fdiv p_0.Root (2 ^ 32)), IntKind.i64.wrap (IntKind.u32.wrap p_0.Root)] : List Int) tr_mv et ?_; exact rtn [] ⟨(some ⟨g_2, 0, none⟩), 4, ([p_0.Office, p_0.Size, IntKind.i64.wrap (Int.fdiv p_0.Root (2 ^ 32)), IntKind.i64.wrap (IntKind.u32.wrap p_0.Root)] : List Int)⟩ rfl ⟨gi 0, trivial⟩
def G_office_logged_value (F : Nat) (p_0 : Koffice_logged) : Option (Int) :=
 Option.bind (G_digest_Next F p_0.Entry.Doc ([p_0.Entry.Stamp.Lo, p_0.Entry.Stamp.Hi] : List Int)) (fun v_3 =>
 some v_3)
set_option maxRecDepth 100000 in
set_option maxHeartbeats 16000000 in
theorem z_office_logged_value (F : Nat) (p_0 : Koffice_logged) (r : Int) (hG : G_office_logged_value F p_0 = some r) :
  Cf Tryd.prog 86 [.agg #[U p_0.Entry.Doc, I p_0.Entry.Stamp.Lo, I p_0.Entry.Stamp.Hi]] [] (U r) := by
 unfold G_office_logged_value at hG; refine fi Tryd.func86 rfl rfl m0 fun S0 w0 hT => ?_
 refine sq ?_; refine rg ?_; refine l1 ?_; refine nw 1 vp [U p_0.Entry.Doc, I p_0.Entry.Stamp.Lo, I p_0.Entry.Stamp.Hi] 109 fun g_1 => ?_
 refine ra [] f0 [] ?_; refine tN ?_; refine sq ?_; replace hG := bind_some hG; obtain ⟨v_3, hy_3, hG⟩ := hG; refine rg ?_; refine rn 11 [(2, 1, 0, 0), (3, 1, 0, 1), (3, 1, 0, 2)] f0 [(5, U p_0.Entry.Doc), (9, I p_0.Entry.Stamp.Lo), (13, I p_0.Entry.Stamp.Hi)] ?_; refine l1 ?_; refine nw 14 (vs 2) [I p_0.Entry.Stamp.Lo, I p_0.Entry.Stamp.Hi] 3 fun g_2 => ?_
 refine l1 ?_; refine cl 15 (z_digest_Next F p_0.Entry.Doc (some ⟨g_2, 0, none⟩) 2 ([p_0.Entry.Stamp.Lo, p_0.Entry.Stamp.Hi] : List Int) _ hy_3) hT ⟨ba 0 et.a, trivial⟩ ?_; refine ra [] f0 [(2, U v_3)] ?_; refine tN ?_; refine kR ?_; obtain rfl := Option.some.inj hG; exact rt []
def G_interval_Valid (F : Nat) (p_0 : KInterval) : Option (Bool) :=
  Option.bind (ifB (decide (0 ≤ p_0.Lo))
      (ifB (decide (p_0.Lo ≤ p_0.Hi))
        (some (decide (p_0.Hi ≤ 3000000000000000)))
        (some false))
      (some false) : Option (Bool)) (fun (v_5 : Bool) => 
    some v_5)
set_option maxRecDepth 100000 in
set_option maxHeartbeats 16000000 in
theorem z_interval_Valid (F : Nat) (p_0 : KInterval) (r : Bool) (hG : G_interval_Valid F p_0 = some r) :
  Cf Tryd.prog 85 [.agg #[I p_0.Lo, I p_0.Hi]] [] (B r) := by
 unfold G_interval_Valid at hG; refine fi Tryd.func85 rfl rfl m0 fun S0 w0 hT => ?_
 refine sq ?_; refine rg ?_; refine l1 ?_; refine nw 1 vp [I p_0.Lo, I p_0.Hi] 34 fun g_1 => ?_
 refine ra [] f0 [] ?_; refine tN ?_; obtain ⟨o_4, hG, hG_4⟩ := bind_some hG; refine jn (fun K E a w => ∃ (v_5 : Bool), Js S0 w0 18 ([(2, B v_5)] ++ K) (se E []) (v_5 = o_4) a w) ?_ ?_
 ·replace hG := ifB_cases hG; rcases hG with ⟨h_2, hG⟩ | ⟨h_2, hG⟩
  ·replace hG := ifB_cases hG; rcases hG with ⟨h_3, hG⟩ | ⟨h_3, hG⟩
   ·refine rg ?_; refine rn 4 [(1, 1, 0, 0)] f0 [(6, B (decide (0 ≤ p_0.Lo)))] ?_; refine sb 6 (bt h_2) ?_; refine rn 7 [(1, 1, 0, 0), (1, 1, 0, 1)] f0 [(13, B (decide (p_0.Lo ≤ p_0.Hi)))] ?_; refine sb 13 (bt h_3) ?_; refine ra [(1, 1, 0, 1)] f0 [(2, B (decide (p_0.Hi ≤ 3000000000000000)))] ?_; refine tN ?_; exact fun a w S hK hE => ⟨decide (p_0.Hi ≤ 3000000000000000), S, hK.wk, hE.sel [], Option.some.inj hG⟩
   ·refine rg ?_; refine rn 4 [(1, 1, 0, 0)] f0 [(6, B (decide (0 ≤ p_0.Lo)))] ?_; refine sb 6 (bt h_2) ?_; refine rn 7 [(1, 1, 0, 0), (1, 1, 0, 1)] f0 [(13, B (decide (p_0.Lo ≤ p_0.Hi)))] ?_; refine sb 13 (bf h_3) ?_; refine ra [] f0 [(2, B false)] ?_; refine tN ?_; exact fun a w S hK hE => ⟨false, S, hK.wk, hE.sel [], Option.some.inj hG⟩
  ·refine rg ?_; refine rn 4 [(1, 1, 0, 0)] f0 [(6, B (decide (0 ≤ p_0.Lo)))] ?_; refine sb 6 (bf h_2) ?_; refine ra [] f0 [(2, B false)] ?_; refine tN ?_; exact fun a w S hK hE => ⟨false, S, hK.wk, hE.sel [], Option.some.inj hG⟩
 ·rintro a w ⟨v_5, hJ⟩; refine hJ.go fun ho_ => ?_
  clear hJ; subst ho_; replace hG := hG_4; refine kR ?_; obtain rfl := Option.some.inj hG; exact rt []
def G_regulatorref25_Few (F : Nat) (p_0 : KOffice) : Option (Bool) :=
 some (decide (((p_0.Entries.length : Nat) : Int) ≤ 40))
set_option maxRecDepth 100000 in
set_option maxHeartbeats 16000000 in
theorem z_regulatorref25_Few (F : Nat) (p_0 : KOfficeL) (r : Bool) (hG : G_regulatorref25_Few F p_0.p = some r) :
  Cf Tryd.prog 20 [.agg #[I p_0.ID, .slice p_0.Entries_A p_0.Entries.length p_0.Entries_c]] [KOfficeL.ok p_0] (B r) := by
 unfold G_regulatorref25_Few at hG; refine fi Tryd.func20 rfl rfl (mc KOfficeL.mv m0) fun S0 w0 hT => ?_
 refine sq ?_; refine rg ?_; refine l1 ?_; refine nw 1 vp [I p_0.ID, .slice p_0.Entries_A p_0.Entries.length p_0.Entries_c] 24 fun g_1 => ?_
 refine ra [] f0 [] ?_; refine tN ?_; refine sq ?_; refine rg ?_; refine ra [(1, 1, 0, 1)] f0 [(2, B (decide (((p_0.Entries.length : Nat) : Int) ≤ 40)))] ?_; refine tN ?_; refine kR ?_; obtain rfl := Option.some.inj hG; exact rt []
def G_regulatorref25_Leaf (F : Nat) (p_0 : KEntry) : Option (Int) :=
 Option.bind (G_regulatorref03_Next F p_0.Doc ([p_0.Stamp.Lo, p_0.Stamp.Hi] : List Int)) (fun v_3 =>
 some v_3)
set_option maxRecDepth 100000 in
set_option maxHeartbeats 16000000 in
theorem z_regulatorref25_Leaf (F : Nat) (p_0 : KEntry) (r : Int) (hG : G_regulatorref25_Leaf F p_0 = some r) :
  Cf Tryd.prog 25 [.agg #[U p_0.Doc, I p_0.Stamp.Lo, I p_0.Stamp.Hi]] [] (U r) := by
 unfold G_regulatorref25_Leaf at hG; refine fi Tryd.func25 rfl rfl m0 fun S0 w0 hT => ?_
 refine sq ?_; refine rg ?_; refine l1 ?_; refine nw 1 vp [U p_0.Doc, I p_0.Stamp.Lo, I p_0.Stamp.Hi] 36 fun g_1 => ?_
 refine ra [] f0 [] ?_; refine tN ?_; refine sq ?_; replace hG := bind_some hG; obtain ⟨v_3, hy_3, hG⟩ := hG; refine rg ?_; refine rn 8 [(1, 1, 0, 0), (2, 1, 0, 1), (2, 1, 0, 2)] f0 [(4, U p_0.Doc), (7, I p_0.Stamp.Lo), (10, I p_0.Stamp.Hi)] ?_; refine l1 ?_; refine nw 11 (vs 2) [I p_0.Stamp.Lo, I p_0.Stamp.Hi] 3 fun g_2 => ?_
 refine l1 ?_; refine cl 12 (z_regulatorref03_Next F p_0.Doc (some ⟨g_2, 0, none⟩) 2 ([p_0.Stamp.Lo, p_0.Stamp.Hi] : List Int) _ hy_3) hT ⟨ba 0 et.a, trivial⟩ ?_; refine ra [] f0 [(2, U v_3)] ?_; refine tN ?_; refine kR ?_; obtain rfl := Option.some.inj hG; exact rt []
def G_regulatorref06_Power (F : Nat) (p_0 : Int) (p_1 : Int) (p_2 : Int) : Option (Int) :=
  Option.bind (Option.bind (iter (σ := Int × Int × Int × Int) (ρ := Int) (un4 fun (v_19 : Int) (v_20 : Int) (v_21 : Int) (v_22 : Int) => 
        (ifB (decide (v_20 > 0))
          (Option.bind (ifB (((Int.tmod v_20 2) == 1))
              (Option.bind (whenG (!(v_21 == 0)) ()) (fun v_26 =>
              some (Int.tmod (IntKind.i64.wrap (v_22 * v_19)) v_21)))
              (some v_22) : Option (Int)) (fun (v_28 : Int) => 
            Option.bind (whenG (!(v_21 == 0)) ()) (fun v_29 =>
            some (.inl (Int.tmod (IntKind.i64.wrap (v_19 * v_19)) v_21, IntKind.i64.wrap (Int.tdiv v_20 2), v_21, v_28)))))
          (some (.inr v_22)) : Option ((Int × Int × Int × Int) ⊕ Int))) F (p_0, p_1, p_2, 1)) (fun (v_30 : Int) => 
      some v_30) : Option (Int)) (fun (v_32 : Int) => 
    some v_32)
end Go.Proofs.YtiijddjfiojfaaaDoor
namespace Go.Proofs.YtiijddjfiojfaaaDoor
open Go.RowKit Go.Maps
def G_group_Member (F : Nat) (p_0 : Int) : Option (Bool) :=
  Option.bind (ifB (decide (0 < p_0))
      (ifB (decide (p_0 < 2147483579))
        (Option.bind (G_group_power F p_0 1073741789) (fun v_3 =>
        some (v_3 == 1)))
        (some false))
      (some false) : Option (Bool)) (fun (v_5 : Bool) => 
    some v_5)
set_option maxRecDepth 100000 in
set_option maxHeartbeats 16000000 in
theorem z_group_Member (F : Nat) (p_0 : Int) (r : Bool) (hG : G_group_Member F p_0 = some r) :
  Cf Tryd.prog 92 [I p_0] [] (B r) := by
 unfold G_group_Member at hG; refine fi Tryd.func92 rfl rfl m0 fun S0 w0 hT => ?_
 refine sq ?_; refine rg ?_; refine ra [] f0 [] ?_; refine tN ?_; obtain ⟨o_4, hG, hG_4⟩ := bind_some hG; refine jn (fun K E a w => ∃ (v_5 : Bool), Js S0 w0 14 ([(2, B v_5)] ++ K) (se E []) (v_5 = o_4) a w) ?_ ?_
 ·replace hG := ifB_cases hG; rcases hG with ⟨h_1, hG⟩ | ⟨h_1, hG⟩
  ·replace hG := ifB_cases hG; rcases hG with ⟨h_2, hG⟩ | ⟨h_2, hG⟩
   ·replace hG := bind_some hG; obtain ⟨v_3, hy_3, hG⟩ := hG; refine rg ?_; refine rn 3 [] f0 [(5, B (decide (0 < p_0)))] ?_; refine sb 5 (bt h_1) ?_; refine rn 4 [] f0 [(9, B (decide (p_0 < 2147483579)))] ?_; refine sb 9 (bt h_2) ?_; refine rn 1 [] f0 [(10, I p_0)] ?_; refine l1 ?_; refine cl 11 (z_group_power F p_0 1073741789 _ hy_3) hT trivial ?_; refine ra [] f0 [(2, B (v_3 == 1))] ?_; refine tN ?_; exact fun a w S hK hE => ⟨(v_3 == 1), S, hK.wk, hE.sel [], Option.some.inj hG⟩
   ·refine rg ?_; refine rn 3 [] f0 [(5, B (decide (0 < p_0)))] ?_; refine sb 5 (bt h_1) ?_; refine rn 4 [] f0 [(9, B (decide (p_0 < 2147483579)))] ?_; refine sb 9 (bf h_2) ?_; refine ra [] f0 [(2, B false)] ?_; refine tN ?_; exact fun a w S hK hE => ⟨false, S, hK.wk, hE.sel [], Option.some.inj hG⟩
  ·refine rg ?_; refine rn 3 [] f0 [(5, B (decide (0 < p_0)))] ?_; refine sb 5 (bf h_1) ?_; refine ra [] f0 [(2, B false)] ?_; refine tN ?_; exact fun a w S hK hE => ⟨false, S, hK.wk, hE.sel [], Option.some.inj hG⟩
 ·rintro a w ⟨v_5, hJ⟩; refine hJ.go fun ho_ => ?_
  clear hJ; subst ho_; replace hG := hG_4; refine kR ?_; obtain rfl := Option.some.inj hG; exact rt []
def G_office_formed (F : Nat) (p_0 : KHead) : Option (Bool) :=
 Option.bind (Option.bind (G_office_between F p_0.Office 1 16) (fun v_2 =>
  ifB (v_2)
   (Option.bind (G_office_between F p_0.Size 1 4096) (fun v_4 =>
   ifB (v_4)
    (Option.bind (G_office_between F p_0.Sig.C 0 1073741788) (fun v_6 =>
    ifB (v_6)
     (Option.bind (G_office_between F p_0.Sig.S 0 1073741788) (fun v_8 =>
     some v_8))
     (some false)))
    (some false)))
   (some false)) : Option (Bool)) (fun (v_10 : Bool) =>
  some v_10)
set_option maxRecDepth 100000 in
set_option maxHeartbeats 16000000 in
theorem z_office_formed (F : Nat) (p_0 : KHead) (r : Bool) (hG : G_office_formed F p_0 = some r) :
  Cf Tryd.prog 63 [.agg #[I p_0.Office, I p_0.Size, U p_0.Root, I p_0.Sig.C, I p_0.Sig.S]] [] (B r) := by
 unfold G_office_formed at hG; refine fi Tryd.func63 rfl rfl m0 fun S0 w0 hT => ?_
 refine sq ?_; refine rg ?_; refine l1 ?_; refine nw 1 vp [I p_0.Office, I p_0.Size, U p_0.Root, I p_0.Sig.C, I p_0.Sig.S] 29 fun g_1 => ?_
 refine ra [] f0 [] ?_; refine tN ?_; obtain ⟨o_9, hG, hG_9⟩ := bind_some hG; refine jn (fun K E a w => ∃ (v_10 : Bool), Js S0 w0 23 ([(2, B v_10)] ++ K) (se E []) (v_10 = o_9) a w) ?_ ?_
 ·replace hG := bind_some hG; obtain ⟨v_2, hy_2, hG⟩ := hG; replace hG := ifB_cases hG; rcases hG with ⟨h_3, hG⟩ | ⟨h_3, hG⟩
  ·replace hG := bind_some hG; obtain ⟨v_4, hy_4, hG⟩ := hG; replace hG := ifB_cases hG; rcases hG with ⟨h_5, hG⟩ | ⟨h_5, hG⟩
   ·replace hG := bind_some hG; obtain ⟨v_6, hy_6, hG⟩ := hG; replace hG := ifB_cases hG; rcases hG with ⟨h_7, hG⟩ | ⟨h_7, hG⟩
    ·replace hG := bind_some hG; obtain ⟨v_8, hy_8, hG⟩ := hG; refine rg ?_; refine rn 2 [(1, 1, 0, 0)] f0 [(4, I p_0.Office)] ?_; refine l1 ?_; refine cl 5 (z_office_between F p_0.Office 1 16 _ hy_2) hT trivial ?_; refine rn 1 [] f0 [(6, B v_2)] ?_; refine sb 6 (bt h_3) ?_; refine rn 2 [(1, 1, 0, 1)] f0 [(8, I p_0.Size)] ?_; refine l1 ?_; refine cl 9 (z_office_between F p_0.Size 1 4096 _ hy_4) hT trivial ?_; refine rn 2 [] f0 [(11, B v_4)] ?_; refine sb 11 (bt h_5) ?_; refine rn 3 [(2, 1, 0, 3)] f0 [(14, I p_0.Sig.C)] ?_; refine l1 ?_; refine cl 15 (z_office_between F p_0.Sig.C 0 1073741788 _ hy_6) hT trivial ?_; refine rn 2 [] f0 [(17, B v_6)] ?_; refine sb 17 (bt h_7) ?_; refine rn 3 [(2, 1, 0, 4)] f0 [(20, I p_0.Sig.S)] ?_; refine l1 ?_; refine cl 21 (z_office_between F p_0.Sig.S 0 1073741788 _ hy_8) hT trivial ?_; refine ra [] f0 [(2, B v_8)] ?_; refine tN ?_; exact fun a w S hK hE => ⟨v_8, S, hK.wk, hE.sel [], Option.some.inj hG⟩
    ·refine rg ?_; refine rn 2 [(1, 1, 0, 0)] f0 [(4, I p_0.Office)] ?_; refine l1 ?_; refine cl 5 (z_office_between F p_0.Office 1 16 _ hy_2) hT trivial ?_; refine rn 1 [] f0 [(6, B v_2)] ?_; refine sb 6 (bt h_3) ?_; refine rn 2 [(1, 1, 0, 1)] f0 [(8, I p_0.Size)] ?_; refine l1 ?_; refine cl 9 (z_office_between F p_0.Size 1 4096 _ hy_4) hT trivial ?_; refine rn 2 [] f0 [(11, B v_4)] ?_; refine sb 11 (bt h_5) ?_; refine rn 3 [(2, 1, 0, 3)] f0 [(14, I p_0.Sig.C)] ?_; refine l1 ?_; refine cl 15 (z_office_between F p_0.Sig.C 0 1073741788 _ hy_6) hT trivial ?_; refine rn 2 [] f0 [(17, B v_6)] ?_; refine sb 17 (bf h_7) ?_; refine ra [] f0 [(2, B false)] ?_; refine tN ?_; exact fun a w S hK hE => ⟨false, S, hK.wk, hE.sel [], Option.some.inj hG⟩
   ·refine rg ?_; refine rn 2 [(1, 1, 0, 0)] f0 [(4, I p_0.Office)] ?_; refine l1 ?_; refine cl 5 (z_office_between F p_0.Office 1 16 _ hy_2) hT trivial ?_; refine rn 1 [] f0 [(6, B v_2)] ?_; refine sb 6 (bt h_3) ?_; refine rn 2 [(1, 1, 0, 1)] f0 [(8, I p_0.Size)] ?_; refine l1 ?_; refine cl 9 (z_office_between F p_0.Size 1 4096 _ hy_4) hT trivial ?_; refine rn 2 [] f0 [(11, B v_4)] ?_; refine sb 11 (bf h_5) ?_; refine ra [] f0 [(2, B false)] ?_; refine tN ?_; exact fun a w S hK hE => ⟨false, S, hK.wk, hE.sel [], Option.some.inj hG⟩
  ·refine rg ?_; refine rn 2 [(1, 1, 0, 0)] f0 [(4, I p_0.Office)] ?_; refine l1 ?_; refine cl 5 (z_office_between F p_0.Office 1 16 _ hy_2) hT trivial ?_; refine rn 1 [] f0 [(6, B v_2)] ?_; refine sb 6 (bf h_3) ?_; refine ra [] f0 [(2, B false)] ?_; refine tN ?_; exact fun a w S hK hE => ⟨false, S, hK.wk, hE.sel [], Option.some.inj hG⟩
 ·rintro a w ⟨v_10, hJ⟩; refine hJ.go fun ho_ => ?_
  clear hJ; subst ho_; replace hG := hG_9; refine kR ?_; obtain rfl := Option.some.inj hG; exact rt []
def G_office_Leaf (F : Nat) (p_0 : KEntry) : Option (Int) :=
 Option.bind (G_office_logged_value F (⟨p_0⟩ : Koffice_logged)) (fun v_2 =>
 some v_2)
set_option maxRecDepth 100000 in
set_option maxHeartbeats 16000000 in
theorem z_office_Leaf (F : Nat) (p_0 : KEntry) (r : Int) (hG : G_office_Leaf F p_0 = some r) :
  Cf Tryd.prog 62 [.agg #[U p_0.Doc, I p_0.Stamp.Lo, I p_0.Stamp.Hi]] [] (U r) := by
 unfold G_office_Leaf at hG; refine fi Tryd.func62 rfl rfl m0 fun S0 w0 hT => ?_
 refine sq ?_; refine rg ?_; refine l1 ?_; refine nw 1 vp [U p_0.Doc, I p_0.Stamp.Lo, I p_0.Stamp.Hi] 36 fun g_1 => ?_
 refine ra [] f0 [] ?_; refine tN ?_; refine sq ?_; replace hG := bind_some hG; obtain ⟨v_2, hy_2, hG⟩ := hG; refine rg ?_; refine rn 2 [(0, 3, 0, 0)] f0 [(4, .agg #[U p_0.Doc, I p_0.Stamp.Lo, I p_0.Stamp.Hi])] ?_; refine l1 ?_; refine cl 5 (z_office_logged_value F (⟨p_0⟩ : Koffice_logged) _ hy_2) hT trivial ?_; refine ra [] f0 [(2, U v_2)] ?_; refine tN ?_; refine kR ?_; obtain rfl := Option.some.inj hG; exact rt []
def G_office_logged_formed (F : Nat) (p_0 : Koffice_logged) : Option (Bool) :=
 Option.bind (G_interval_Valid F p_0.Entry.Stamp) (fun v_2 =>
 some v_2)
set_option maxRecDepth 100000 in
set_option maxHeartbeats 16000000 in
theorem z_office_logged_formed (F : Nat) (p_0 : Koffice_logged) (r : Bool) (hG : G_office_logged_formed F p_0 = some r) :
  Cf Tryd.prog 61 [.agg #[U p_0.Entry.Doc, I p_0.Entry.Stamp.Lo, I p_0.Entry.Stamp.Hi]] [] (B r) := by
 unfold G_office_logged_formed at hG; refine fi Tryd.func61 rfl rfl m0 fun S0 w0 hT => ?_
 refine sq ?_; refine rg ?_; refine l1 ?_; refine nw 1 vp [U p_0.Entry.Doc, I p_0.Entry.Stamp.Lo, I p_0.Entry.Stamp.Hi] 109 fun g_1 => ?_
 refine ra [] f0 [] ?_; refine tN ?_; refine sq ?_; replace hG := bind_some hG; obtain ⟨v_2, hy_2, hG⟩ := hG; refine rg ?_; refine rn 3 [(2, 2, 0, 1)] f0 [(5, .agg #[I p_0.Entry.Stamp.Lo, I p_0.Entry.Stamp.Hi])] ?_; refine l1 ?_; refine cl 6 (z_interval_Valid F p_0.Entry.Stamp _ hy_2) hT trivial ?_; refine ra [] f0 [(2, B v_2)] ?_; refine tN ?_; refine kR ?_; obtain rfl := Option.some.inj hG; exact rt []
def G_regulatorlaw26_few (F : Nat) (p_0 : KOffice) (p_1 : KOffice) : Option (Bool) :=
 Option.bind (Option.bind (G_regulatorref25_Few F p_0) (fun v_3 =>
  ifB (v_3)
   (Option.bind (G_regulatorref25_Few F p_1) (fun v_5 =>
   some v_5))
   (some false)) : Option (Bool)) (fun (v_7 : Bool) =>
  some v_7)
set_option maxRecDepth 100000 in
set_option maxHeartbeats 16000000 in
theorem z_regulatorlaw26_few (F : Nat) (p_0 : KOfficeL) (p_1 : KOfficeL) (r : Bool) (hG : G_regulatorlaw26_few F p_0.p p_1.p = some r) :
  Cf Tryd.prog 9 [.agg #[I p_0.ID, .slice p_0.Entries_A p_0.Entries.length p_0.Entries_c], .agg #[I p_1.ID, .slice p_1.Entries_A p_1.Entries.length p_1.Entries_c]] [KOfficeL.ok p_0, KOfficeL.ok p_1] (B r) := by
 unfold G_regulatorlaw26_few at hG; refine fi Tryd.func9 rfl rfl (mc KOfficeL.mv (mc KOfficeL.mv m0)) fun S0 w0 hT => ?_
 refine sq ?_; refine rg ?_; refine l1 ?_; refine nw 2 vp [I p_0.ID, .slice p_0.Entries_A p_0.Entries.length p_0.Entries_c] 24 fun g_1 => ?_
 refine l1 ?_; refine nw 3 vp [I p_1.ID, .slice p_1.Entries_A p_1.Entries.length p_1.Entries_c] 24 fun g_2 => ?_
 refine ra [] f0 [] ?_; refine tN ?_; obtain ⟨o_6, hG, hG_6⟩ := bind_some hG; refine jn (fun K E a w => ∃ (v_7 : Bool), Js S0 w0 11 ([(4, B v_7)] ++ K) (se E []) (v_7 = o_6) a w) ?_ ?_
 ·replace hG := bind_some hG; obtain ⟨v_3, hy_3, hG⟩ := hG; replace hG := ifB_cases hG; rcases hG with ⟨h_4, hG⟩ | ⟨h_4, hG⟩
  ·replace hG := bind_some hG; obtain ⟨v_5, hy_5, hG⟩ := hG; refine rg ?_; refine rn 1 [(0, 2, 1, 0)] f0 [(5, .agg #[I p_0.ID, .slice p_0.Entries_A p_0.Entries.length p_0.Entries_c])] ?_; refine l1 ?_; refine cl 6 (z_regulatorref25_Few F p_0 _ hy_3) hT ⟨(gi 2).a, trivial⟩ ?_; refine rn 1 [] f0 [(7, B v_3)] ?_; refine sb 7 (bt h_4) ?_; refine rn 1 [(0, 2, 0, 0)] f0 [(8, .agg #[I p_1.ID, .slice p_1.Entries_A p_1.Entries.length p_1.Entries_c])] ?_; refine l1 ?_; refine cl 9 (z_regulatorref25_Few F p_1 _ hy_5) hT ⟨(gi 3).a, trivial⟩ ?_; refine ra [] f0 [(4, B v_5)] ?_; refine tN ?_; exact fun a w S hK hE => ⟨v_5, S, hK.wk, hE.sel [], Option.some.inj hG⟩
  ·refine rg ?_; refine rn 1 [(0, 2, 1, 0)] f0 [(5, .agg #[I p_0.ID, .slice p_0.Entries_A p_0.Entries.length p_0.Entries_c])] ?_; refine l1 ?_; refine cl 6 (z_regulatorref25_Few F p_0 _ hy_3) hT ⟨(gi 2).a, trivial⟩ ?_; refine rn 1 [] f0 [(7, B v_3)] ?_; refine sb 7 (bf h_4) ?_; refine ra [] f0 [(4, B false)] ?_; refine tN ?_; exact fun a w S hK hE => ⟨false, S, hK.wk, hE.sel [], Option.some.inj hG⟩
 ·rintro a w ⟨v_7, hJ⟩; refine hJ.go fun ho_ => ?_
  clear hJ; subst ho_; replace hG := hG_6; refine kR ?_; obtain rfl := Option.some.inj hG; exact rt []
def G_group_Sign (F : Nat) (p_0 : Int) (p_1 : Int) (p_2 : List Int) : Option (KSig × Int) :=
 Option.bind (Option.bind (G_group_within F p_0 1) (fun v_2 =>
  ifB (v_2)
   (Option.bind (G_group_within F p_1 1) (fun v_4 =>
   some (!v_4, p_2)))
   (some (true, p_2))) : Option ((Bool × (List Int)))) (un2 fun (v_6 : Bool) (v_7 : (List Int)) =>
  ifB (v_6)
   (some ((⟨0, 0⟩ : KSig), 1))
   (Option.bind (G_group_power F 4 p_1) (fun v_11 =>
   Option.bind (G_group_power F 4 p_0) (fun v_12 =>
   Option.bind (G_group_challenge F v_11 v_12 v_7) (fun v_13 =>
   some ((⟨v_13, Int.tmod (IntKind.i64.wrap (p_1 + (IntKind.i64.wrap (v_13 * p_0)))) 1073741789⟩ : KSig), 0))))))
set_option maxRecDepth 100000 in
set_option maxHeartbeats 16000000 in
theorem z_group_Sign (F : Nat) (p_0 : Int) (p_1 : Int) (p_2_A : Option Addr) (p_2_c : Nat) (p_2 : List Int) (r : KSig × Int) (hG : G_group_Sign F p_0 p_1 p_2 = some r) :
  Cf Tryd.prog 37 [I p_0, I p_1, .slice p_2_A p_2.length p_2_c] [RowC p_2_A p_2_c c_i64 tr p_2] (.tuple #[.agg #[I r.1.C, I r.1.S], I r.2]) := by
 unfold G_group_Sign at hG; refine fi Tryd.func37 rfl rfl (mr tr_mv m0) fun S0 w0 hT => ?_
 refine sq ?_; refine rg ?_; refine l1 ?_; refine nw 6 vp [I 0, I 0] 27 fun g_1 => ?_
 refine ra [] f0 [] ?_; refine tN ?_; refine sq ?_; obtain ⟨o_5, hG, hG_5⟩ := bind_some hG; refine jn (fun K E a w => ∃ (v_6 : Bool), ∃ (v_7 : List Int), ∃ (v_8_A : Option Addr), ∃ (v_9_c : Nat), Js S0 w0 32 ([(2, .slice v_8_A v_7.length v_9_c), (16, B v_6)] ++ K) ([.dat (RowC v_8_A v_9_c c_i64 tr v_7)] ++ se E [0]) ((v_6, v_7) = o_5) a w) ?_ ?_
 ·replace hG := bind_some hG; obtain ⟨v_2, hy_2, hG⟩ := hG; replace hG := ifB_cases hG; rcases hG with ⟨h_3, hG⟩ | ⟨h_3, hG⟩
  ·replace hG := bind_some hG; obtain ⟨v_4, hy_4, hG⟩ := hG; refine rg ?_; refine rn 1 [] f0 [(9, I p_0)] ?_; refine l1 ?_; refine cl 10 (z_group_within F p_0 1 _ hy_2) hT trivial ?_; refine rn 2 [] f0 [(12, B (!v_2))] ?_; refine sb 12 (nt h_3) ?_; refine rn 1 [] f0 [(13, I p_1)] ?_; refine l1 ?_; refine cl 14 (z_group_within F p_1 1 _ hy_4) hT trivial ?_; refine ra [] f0 [(16, B (!v_4))] ?_; refine tN ?_; exact fun a w S hK hE => ⟨!v_4, p_2, p_2_A, p_2_c, S, hK.wk, hE.sel [1, 0], Option.some.inj hG⟩
  ·refine rg ?_; refine rn 1 [] f0 [(9, I p_0)] ?_; refine l1 ?_; refine cl 10 (z_group_within F p_0 1 _ hy_2) hT trivial ?_; refine rn 2 [] f0 [(12, B (!v_2))] ?_; refine sb 12 (nf h_3) ?_; refine ra [] f0 [(16, B true)] ?_; refine tN ?_; exact fun a w S hK hE => ⟨true, p_2, p_2_A, p_2_c, S, hK.wk, hE.sel [1, 0], Option.some.inj hG⟩
 ·rintro a w ⟨v_6, v_7, v_8_A, v_9_c, hJ⟩; refine hJ.go fun ho_ => ?_
  clear hJ; subst ho_; replace hG := hG_5; rcases ifB_cases hG with ⟨h_10, hG⟩ | ⟨h_10, hG⟩
  ·refine sb 16 (bt h_10) ?_; refine ct ?_; refine sq ?_; refine rg ?_; refine rn 1 [] f0 [(17, .agg #[I 0, I 0])] ?_; refine l1 ?_; refine sr 1 g_1 [(0, I 0), (1, I 0)] ?_; refine ra [] f0 [(7, I 1)] ?_; refine tN ?_; refine kR ?_; refine tR ?_; obtain rfl := Option.some.inj hG; exact rt [(1, 0, 2)]
  ·refine sb 16 (bf h_10) ?_; refine cf ?_; refine kS ?_; refine tN ?_; refine sq ?_; replace hG := bind_some hG; obtain ⟨v_11, hy_11, hG⟩ := hG; replace hG := bind_some hG; obtain ⟨v_12, hy_12, hG⟩ := hG; replace hG := bind_some hG; obtain ⟨v_13, hy_13, hG⟩ := hG; refine rg ?_; refine rn 1 [] f0 [(18, I p_1)] ?_; refine l1 ?_; refine cl 19 (z_group_power F 4 p_1 _ hy_11) hT trivial ?_; refine rn 1 [] f0 [(20, I p_0)] ?_; refine l1 ?_; refine cl 21 (z_group_power F 4 p_0 _ hy_12) hT trivial ?_; refine rn 1 [] f0 [(22, .slice v_8_A v_7.length v_9_c)] ?_; refine l1 ?_; refine cl 23 (z_group_challenge F v_11 v_12 v_8_A v_9_c v_7 _ hy_13) hT ⟨ga 0, trivial⟩ ?_; refine ra [] f0 [(8, I v_13)] ?_; refine tN ?_; refine sq ?_; refine rg ?_; refine rn 8 [(6, 0, 0, 0)] (fc (fun W => run_rem (T := 3) (k := .i64) (p := IntKind.i64.wrap (p_1 + (IntKind.i64.wrap (v_13 * p_0)))) (q := 1073741789) (by decide) W) f0) [(31, .agg #[I v_13, I (Int.tmod (IntKind.i64.wrap (p_1 + (IntKind.i64.wrap (v_13 * p_0)))) 1073741789)])] ?_; refine l1 ?_; refine sr 1 g_1 [(0, I v_13), (1, I (Int.tmod (IntKind.i64.wrap (p_1 + (IntKind.i64.wrap (v_13 * p_0)))) 1073741789))] ?_; refine ra [] f0 [(7, I 0)] ?_; refine tN ?_; refine kR ?_; obtain rfl := Option.some.inj hG; exact rt [(1, 0, 2)]
end Go.Proofs.YtiijddjfiojfaaaDoor
namespace Go.Proofs.YtiijddjfiojfaaaDoor
open Go.RowKit Go.Maps
def G_group_Verify (F : Nat) (p_0 : Int) (p_1 : KSig) (p_2 : List Int) : Option (Bool × Int) :=
 Option.bind (Option.bind (G_group_Member F p_0) (fun v_2 =>
  ifB (v_2)
   (Option.bind (G_group_within F p_1.C 0) (fun v_4 =>
   ifB (v_4)
    (Option.bind (G_group_within F p_1.S 0) (fun v_6 =>
    some (p_2, !v_6)))
    (some (p_2, true))))
   (some (p_2, true))) : Option (((List Int) × Bool))) (un2 fun (v_8 : (List Int)) (v_11 : Bool) =>
  ifB (v_11)
   (some (false, 1))
   (Option.bind (G_group_power F 4 p_1.S) (fun v_13 =>
   Option.bind (G_group_power F p_0 (IntKind.i64.wrap (1073741789 - p_1.C))) (fun v_14 =>
   Option.bind (G_group_challenge F (Int.tmod (IntKind.i64.wrap (v_13 * v_14)) 2147483579) p_0 v_8) (fun v_15 =>
   some (decide (p_1 = (⟨v_15, p_1.S⟩ : KSig)), 0))))))
set_option maxRecDepth 100000 in
set_option maxHeartbeats 16000000 in
theorem z_group_Verify (F : Nat) (p_0 : Int) (p_1 : KSig) (p_2_A : Option Addr) (p_2_c : Nat) (p_2 : List Int) (r : Bool × Int) (hG : G_group_Verify F p_0 p_1 p_2 = some r) :
  Cf Tryd.prog 75 [I p_0, .agg #[I p_1.C, I p_1.S], .slice p_2_A p_2.length p_2_c] [RowC p_2_A p_2_c c_i64 tr p_2] (.tuple #[B r.1, I r.2]) := by
 unfold G_group_Verify at hG; refine fi Tryd.func75 rfl rfl (mr tr_mv m0) fun S0 w0 hT => ?_
 refine sq ?_; refine rg ?_; refine l1 ?_; refine nw 4 vp [I p_1.C, I p_1.S] 27 fun g_1 => ?_
 refine ra [] f0 [] ?_; refine tN ?_; refine sq ?_; obtain ⟨o_7, hG, hG_7⟩ := bind_some hG; refine jn (fun K E a w => ∃ (v_8 : List Int), ∃ (v_9_A : Option Addr), ∃ (v_10_c : Nat), ∃ (v_11 : Bool), Js S0 w0 43 ([(2, .slice v_9_A v_8.length v_10_c), (23, B v_11)] ++ K) ([.dat (RowC v_9_A v_10_c c_i64 tr v_8)] ++ se E [0]) ((v_8, v_11) = o_7) a w) ?_ ?_
 ·replace hG := bind_some hG; obtain ⟨v_2, hy_2, hG⟩ := hG; replace hG := ifB_cases hG; rcases hG with ⟨h_3, hG⟩ | ⟨h_3, hG⟩
  ·replace hG := bind_some hG; obtain ⟨v_4, hy_4, hG⟩ := hG; replace hG := ifB_cases hG; rcases hG with ⟨h_5, hG⟩ | ⟨h_5, hG⟩
   ·replace hG := bind_some hG; obtain ⟨v_6, hy_6, hG⟩ := hG; refine rg ?_; refine rn 1 [] f0 [(9, I p_0)] ?_; refine l1 ?_; refine cl 10 (z_group_Member F p_0 _ hy_2) hT trivial ?_; refine rn 2 [] f0 [(12, B (!v_2))] ?_; refine sb 12 (nt h_3) ?_; refine rn 2 [(1, 1, 0, 0)] f0 [(14, I p_1.C)] ?_; refine l1 ?_; refine cl 15 (z_group_within F p_1.C 0 _ hy_4) hT trivial ?_; refine rn 3 [] f0 [(18, B (!v_4))] ?_; refine sb 18 (nt h_5) ?_; refine rn 2 [(1, 1, 0, 1)] f0 [(20, I p_1.S)] ?_; refine l1 ?_; refine cl 21 (z_group_within F p_1.S 0 _ hy_6) hT trivial ?_; refine ra [] f0 [(23, B (!v_6))] ?_; refine tN ?_; exact fun a w S hK hE => ⟨p_2, p_2_A, p_2_c, !v_6, S, hK.wk, hE.sel [1, 0], Option.some.inj hG⟩
   ·refine rg ?_; refine rn 1 [] f0 [(9, I p_0)] ?_; refine l1 ?_; refine cl 10 (z_group_Member F p_0 _ hy_2) hT trivial ?_; refine rn 2 [] f0 [(12, B (!v_2))] ?_; refine sb 12 (nt h_3) ?_; refine rn 2 [(1, 1, 0, 0)] f0 [(14, I p_1.C)] ?_; refine l1 ?_; refine cl 15 (z_group_within F p_1.C 0 _ hy_4) hT trivial ?_; refine rn 3 [] f0 [(18, B (!v_4))] ?_; refine sb 18 (nf h_5) ?_; refine ra [] f0 [(23, B true)] ?_; refine tN ?_; exact fun a w S hK hE => ⟨p_2, p_2_A, p_2_c, true, S, hK.wk, hE.sel [1, 0], Option.some.inj hG⟩
  ·refine rg ?_; refine rn 1 [] f0 [(9, I p_0)] ?_; refine l1 ?_; refine cl 10 (z_group_Member F p_0 _ hy_2) hT trivial ?_; refine rn 2 [] f0 [(12, B (!v_2))] ?_; refine sb 12 (nf h_3) ?_; refine ra [] f0 [(23, B true)] ?_; refine tN ?_; exact fun a w S hK hE => ⟨p_2, p_2_A, p_2_c, true, S, hK.wk, hE.sel [1, 0], Option.some.inj hG⟩
 ·rintro a w ⟨v_8, v_9_A, v_10_c, v_11, hJ⟩; refine hJ.go fun ho_ => ?_
  clear hJ; subst ho_; replace hG := hG_7; rcases ifB_cases hG with ⟨h_12, hG⟩ | ⟨h_12, hG⟩
  ·refine sb 23 (bt h_12) ?_; refine ct ?_; refine sq ?_; refine rg ?_; refine ra [] f0 [(6, B false), (7, I 1)] ?_; refine tN ?_; refine kR ?_; refine tR ?_; obtain rfl := Option.some.inj hG; exact rt []
  ·refine sb 23 (bf h_12) ?_; refine cf ?_; refine kS ?_; refine tN ?_; refine sq ?_; replace hG := bind_some hG; obtain ⟨v_13, hy_13, hG⟩ := hG; replace hG := bind_some hG; obtain ⟨v_14, hy_14, hG⟩ := hG; refine qb ?_; refine qn 2 [(1, 1, 1, 1)] f0 [(25, I p_1.S)] ?_; refine qc 26 (z_group_power F 4 p_1.S _ hy_13) hT trivial ?_; refine qn 4 [(2, 1, 1, 0)] f0 [(27, I p_0), (30, I (IntKind.i64.wrap (1073741789 - p_1.C)))] ?_; refine qc 31 (z_group_power F p_0 (IntKind.i64.wrap (1073741789 - p_1.C)) _ hy_14) hT trivial ?_; refine qa [(1, 0, 0, 0)] (fc (fun W => run_rem (T := 3) (k := .i64) (p := IntKind.i64.wrap (v_13 * v_14)) (q := 2147483579) (by decide) W) f0) [(8, I (Int.tmod (IntKind.i64.wrap (v_13 * v_14)) 2147483579))] ?_; refine tN ?_; refine sq ?_; replace hG := bind_some hG; obtain ⟨v_15, hy_15, hG⟩ := hG; refine qb ?_; refine qn 4 [(0, 2, 1, 0)] f0 [(34, .agg #[I p_1.C, I p_1.S]), (35, I (Int.tmod (IntKind.i64.wrap (v_13 * v_14)) 2147483579)), (36, I p_0), (37, .slice v_9_A v_8.length v_10_c)] ?_; refine qc 38 (z_group_challenge F (Int.tmod (IntKind.i64.wrap (v_13 * v_14)) 2147483579) p_0 v_9_A v_10_c v_8 _ hy_15) hT ⟨ga 0, trivial⟩ ?_; refine qa [(1, 1, 1, 1), (1, 0, 0, 0)] (fc (eql_KSig p_1 (⟨v_15, p_1.S⟩ : KSig)) f0) [(6, B (decide (p_1 = (⟨v_15, p_1.S⟩ : KSig)))), (7, I 0)] ?_; refine tN ?_; refine kR ?_; obtain rfl := Option.some.inj hG; exact rt []
def G_office_isPublic (F : Nat) (p_0 : Int) : Option (Bool) :=
  Option.bind (ifB ((p_0 == 1))
      (some false)
      (Option.bind (G_group_Member F p_0) (fun v_2 =>
      some v_2)) : Option (Bool)) (fun (v_4 : Bool) => 
    some v_4)
set_option maxRecDepth 100000 in
set_option maxHeartbeats 16000000 in
theorem z_office_isPublic (F : Nat) (p_0 : Int) (r : Bool) (hG : G_office_isPublic F p_0 = some r) :
  Cf Tryd.prog 74 [I p_0] [] (B r) := by
 unfold G_office_isPublic at hG; refine fi Tryd.func74 rfl rfl m0 fun S0 w0 hT => ?_
 refine sq ?_; refine rg ?_; refine ra [] f0 [] ?_; refine tN ?_; obtain ⟨o_3, hG, hG_3⟩ := bind_some hG; refine jn (fun K E a w => ∃ (v_4 : Bool), Js S0 w0 9 ([(2, B v_4)] ++ K) (se E []) (v_4 = o_3) a w) ?_ ?_
 ·replace hG := ifB_cases hG; rcases hG with ⟨h_1, hG⟩ | ⟨h_1, hG⟩
  ·refine rg ?_; refine rn 3 [] f0 [(5, B (!(p_0 == 1)))] ?_; refine sb 5 (nt h_1) ?_; refine ra [] f0 [(2, B false)] ?_; refine tN ?_; exact fun a w S hK hE => ⟨false, S, hK.wk, hE.sel [], Option.some.inj hG⟩
  ·replace hG := bind_some hG; obtain ⟨v_2, hy_2, hG⟩ := hG; refine rg ?_; refine rn 3 [] f0 [(5, B (!(p_0 == 1)))] ?_; refine sb 5 (nf h_1) ?_; refine rn 1 [] f0 [(6, I p_0)] ?_; refine l1 ?_; refine cl 7 (z_group_Member F p_0 _ hy_2) hT trivial ?_; refine ra [] f0 [(2, B v_2)] ?_; refine tN ?_; exact fun a w S hK hE => ⟨v_2, S, hK.wk, hE.sel [], Option.some.inj hG⟩
 ·rintro a w ⟨v_4, hJ⟩; refine hJ.go fun ho_ => ?_
  clear hJ; subst ho_; replace hG := hG_3; refine kR ?_; obtain rfl := Option.some.inj hG; exact rt []
def G_cross_values (F : Nat) (p_0 : KOffice) (p_1 : Int) : Option ((List Int)) :=
  Option.bind (Option.bind (slI p_0.Entries 0 p_1) (fun v_2 =>
    Option.bind (iter (σ := Int × (List Int)) (ρ := (List Int)) (un2 fun (v_23 : Int) (v_24 : (List Int)) => 
        (ifB (decide (v_23 < ((v_2.length : Nat) : Int)))
          (Option.bind (ixI v_2 v_23) (fun v_29 =>
          Option.bind (G_office_Leaf F v_29) (fun v_33 =>
          Option.bind (apG 8 v_24 ([v_33] : List Int)) (fun v_35 =>
          some (.inl (IntKind.i64.wrap (v_23 + 1), v_35))))))
          (some (.inr v_24)) : Option ((Int × (List Int)) ⊕ (List Int)))) F (0, ([] : List Int))) (fun (v_36 : (List Int)) => 
      some v_36)) : Option ((List Int))) (fun (v_40 : (List Int)) => 
    some v_40)
set_option maxRecDepth 100000 in
set_option maxHeartbeats 16000000 in
theorem z_cross_values (F : Nat) (p_0 : KOfficeL) (p_1 : Int) (r : (List Int)) (hG : G_cross_values F p_0.p p_1 = some r) :
  Cn Tryd.prog 31 [.agg #[I p_0.ID, .slice p_0.Entries_A p_0.Entries.length p_0.Entries_c], I p_1] [KOfficeL.ok p_0] (fun q : KSuint64L => r = q.l) (fun q => .slice q.A q.l.length q.c) (fun q => [RowC q.A q.c c_u64 tr q.l]) := by
 unfold G_cross_values at hG; refine fin Tryd.func31 rfl rfl (mc KOfficeL.mv m0) fun S0 w0 hT => ?_
 refine sq ?_; refine rg ?_; refine l1 ?_; refine nw 2 vp [I p_0.ID, .slice p_0.Entries_A p_0.Entries.length p_0.Entries_c] 24 fun g_1 => ?_
 refine ra [] f0 [] ?_; refine tN ?_; refine sq ?_; refine rg ?_; refine ra [] f0 [(5, .slice none 0 0)] ?_; refine tN ?_; obtain ⟨o_39, hG, hG_39⟩ := bind_some hG; refine jn (fun K E a w => ∃ (v_40 : List Int), ∃ (v_41_A : Option Addr), ∃ (v_42_c : Nat), Js S0 w0 24 ([(5, .slice v_41_A v_40.length v_42_c)] ++ K) ([.own 25 1 (.slice v_41_A v_40.length v_42_c) v_40.length (v_40.flatMap c_u64)]) (v_40 = o_39) a w) ?_ ?_
 ·refine sq ?_; replace hG := bind_some hG; obtain ⟨v_2, hy_2, hG⟩ := hG; refine rg ?_; refine fp false true inf22 (gm (KOfficeL.ok p_0) 1 fun _ _ h => h.f_Entries) hy_2 fun v_2_A v_2_c hp_2 => ?_
  refine ra [(1, 1, 1, 1), (1, 0, 0, 0)] (fc (hp_2 .i64 .i64) f0) [(11, .slice v_2_A v_2.length v_2_c), (12, I ((v_2.length : Nat) : Int)), (13, I 0)] ?_; refine tN ?_; refine bk ?_; obtain ⟨e_27, hL, hG_27⟩ := bind_some hG; clear hG; obtain ⟨stp_27, hs_27, hL⟩ := iter_gen hL; refine lp (fun K E n_ a w => ∃ (v_23 : Int), ∃ (v_24 : List Int), ∃ (v_25_A : Option Addr), ∃ (v_26_c : Nat), Js S0 w0 24 ([(5, .slice v_25_A v_24.length v_26_c), (13, I v_23)] ++ K) ([.own 25 1 (.slice v_25_A v_24.length v_26_c) v_24.length (v_24.flatMap c_u64)] ++ se E [0]) (iter stp_27 n_ (v_23, v_24) = some e_27) a w) F ?_ ?_
  ·refine on 25 1 ?_; exact fun a w S hK hE => ⟨0, ([] : List Int), none, 0, S, hK.wk, hE.sel [0, 1], hL⟩
  ·clear hL; rintro n_27 a w ⟨v_23, v_24, v_25_A, v_26_c, hJ⟩; refine hJ.go fun hL => ?_
   clear hJ; obtain ⟨m_27, o_27, rfl, hG, hO1_27, hO2_27⟩ := iter_step hL; clear hL; rw [hs_27] at hG; refine sq ?_; refine rg ?_; refine ra [] f0 [(14, B (decide (v_23 < ((v_2.length : Nat) : Int))))] ?_; refine tN ?_; refine sq ?_; rcases ifB_cases hG with ⟨h_28, hG⟩ | ⟨h_28, hG⟩
   ·refine sb 14 (bt h_28) ?_; refine ct ?_; refine kS ?_; refine tN ?_; refine sq ?_; refine bk ?_; refine sq ?_; replace hG := bind_some hG; obtain ⟨v_29, hy_29, hG⟩ := hG; refine rg ?_; refine fx inf22 (gd' (RowC v_2_A v_2_c KEntry.cells tr v_2) 1) hy_29 fun b_30 o_31 hi_29 => ?_
    refine rn 2 [(0, 0, 0, 0), (0, 3, 0, 0)] (fc (hi_29 .i64) f0) [(16, .agg #[U v_29.Doc, I v_29.Stamp.Lo, I v_29.Stamp.Hi])] ?_; refine l1 ?_; refine nw 7 vp [U 0, I 0, I 0] 36 fun g_32 => ?_
    refine l1 ?_; refine sr 0 g_32 [(0, U v_29.Doc), (1, I v_29.Stamp.Lo), (2, I v_29.Stamp.Hi)] ?_; refine nl ?_; refine tN ?_; replace hG := bind_some hG; obtain ⟨v_33, hy_33, hG⟩ := hG; replace hG := bind_some hG; obtain ⟨v_35, hy_35, hG⟩ := hG; refine rg ?_; refine rn 2 [(1, 3, 0, 0)] f0 [(17, .slice v_25_A v_24.length v_26_c), (18, .agg #[U v_29.Doc, I v_29.Stamp.Lo, I v_29.Stamp.Hi])] ?_; refine l1 ?_; refine cl 19 (z_office_Leaf F v_29 _ hy_33) hT trivial ?_; refine l1 ?_; refine nw 20 (vs 1) [U v_33] 25 fun g_34 => ?_
    refine l1 ?_; refine ap 3 21 v_25_A v_26_c v_24 ([v_33] : List Int) inf32 (bA (f := c_u64) (ok := tr) (l := ([v_33] : List Int)) g_34 0 et.a) hy_35 one_u64 fun v_35_A v_35_c _ => ?_
    refine ra [] f0 [(5, .slice v_35_A v_35.length v_35_c)] ?_; refine hN ?_; refine tN ?_; refine rg ?_; refine ra [] f0 [(13, I (IntKind.i64.wrap (v_23 + 1)))] ?_; refine tN ?_; exact fun a w S hK hE => ⟨m_27, ⟨IntKind.i64.wrap (v_23 + 1), v_35, v_35_A, v_35_c, S, hK.wk, hE.sel [3, 4], hO1_27 _ (Option.some.inj hG).symm⟩, Nat.lt_succ_self _⟩
   ·refine sb 14 (bf h_28) ?_; refine cf ?_; refine kX ?_; refine tX ?_; refine tX ?_; have he_ := hO2_27 _ (Option.some.inj hG).symm; subst he_; replace hG := hG_27; refine hH ?_; refine tN ?_; exact fun a w S hK hE => ⟨v_24, v_25_A, v_26_c, S, hK.wk, hE.sel [0], Option.some.inj hG⟩
 ·rintro a w ⟨v_40, v_41_A, v_42_c, hJ⟩; refine hJ.go fun ho_ => ?_
  clear hJ; subst ho_; replace hG := hG_39; refine sq ?_; refine rg ?_; refine ra [] f0 [(4, .slice v_41_A v_40.length v_42_c)] ?_; refine tN ?_; refine kR ?_; obtain rfl := Option.some.inj hG; refine so (A := v_41_A) (c := v_42_c) 0 c_u64 tr v_40 tr_mv et ?_; exact rtn [] ⟨v_41_A, v_42_c, v_40⟩ rfl ⟨gi 0, trivial⟩
def G_office_Valid (F : Nat) (p_0 : KOffice) : Option (Bool) :=
  Option.bind (Option.bind (iter (σ := Int) (ρ := Unit ⊕ Unit) (fun (v_27 : Int) => 
        (ifB (decide (v_27 < ((p_0.Entries.length : Nat) : Int)))
          (Option.bind (ixI p_0.Entries v_27) (fun v_30 =>
          Option.bind (Option.bind (G_office_logged_formed F (⟨v_30⟩ : Koffice_logged)) (fun v_34 =>
            ifB (v_34)
              (ifB (decide (v_27 > 0))
                (Option.bind (ixI p_0.Entries (IntKind.i64.wrap (v_27 - 1))) (fun v_37 =>
                some (decide (v_30.Stamp.Lo < v_37.Stamp.Lo))))
                (some false))
              (some true)) : Option (Bool)) (fun (v_41 : Bool) => 
            ifB (v_41)
              (some (.inr (.inr ())))
              (some (.inl (IntKind.i64.wrap (v_27 + 1)))))))
          (some (.inr (.inl ()))) : Option (Int ⊕ (Unit ⊕ Unit)))) F 0) (Sum.elim (fun (_ : Unit) => 
      some (.inl ())) (fun (_ : Unit) => 
      some (.inr ()))) : Option (Unit ⊕ Unit)) (Sum.elim (fun (_ : Unit) => 
    Option.bind (Option.bind (G_office_between F p_0.ID 1 16) (fun v_44 =>
      ifB (v_44)
        (some (decide (((p_0.Entries.length : Nat) : Int) ≤ 4096)))
        (some false)) : Option (Bool)) (fun (v_47 : Bool) => 
      some v_47)) (fun (_ : Unit) => 
    some false))
set_option maxRecDepth 100000 in
set_option maxHeartbeats 16000000 in
theorem z_office_Valid (F : Nat) (p_0 : KOfficeL) (r : Bool) (hG : G_office_Valid F p_0.p = some r) :
  Cf Tryd.prog 26 [.agg #[I p_0.ID, .slice p_0.Entries_A p_0.Entries.length p_0.Entries_c]] [KOfficeL.ok p_0] (B r) := by
 unfold G_office_Valid at hG; refine fi Tryd.func26 rfl rfl (mc KOfficeL.mv m0) fun S0 w0 hT => ?_
 refine sq ?_; refine rg ?_; refine l1 ?_; refine nw 1 vp [I p_0.ID, .slice p_0.Entries_A p_0.Entries.length p_0.Entries_c] 24 fun g_1 => ?_
 refine ra [] f0 [] ?_; refine tN ?_; obtain ⟨o_43, hG, hG_43⟩ := bind_some hG; refine jn (fun K E a w => Js S0 w0 45 (K) ([.dat (RowC p_0.Entries_A p_0.Entries_c KEntry.cells tr p_0.Entries)] ++ se E [0]) (.inl () = o_43) a w) ?_ ?_
 ·refine sq ?_; refine rg ?_; refine ra [(1, 1, 0, 1)] f0 [(6, .slice p_0.Entries_A p_0.Entries.length p_0.Entries_c), (7, I ((p_0.Entries.length : Nat) : Int)), (8, I 0)] ?_; refine tN ?_; refine bk ?_; obtain ⟨e_28, hL, hG_28⟩ := bind_some hG; clear hG; obtain ⟨stp_28, hs_28, hL⟩ := iter_gen hL; refine lp (fun K E n_ a w => ∃ (v_27 : Int), Js S0 w0 45 ([(8, I v_27)] ++ K) ([.dat (RowC p_0.Entries_A p_0.Entries_c KEntry.cells tr p_0.Entries)] ++ se E [0]) (iter stp_28 n_ v_27 = some e_28) a w) F ?_ ?_
  ·refine fm (RowC p_0.Entries_A p_0.Entries_c KEntry.cells tr p_0.Entries) (gm (KOfficeL.ok p_0) 1 fun _ _ h => h.f_Entries) ?_; exact fun a w S hK hE => ⟨0, S, hK.wk, hE.sel [0, 1], hL⟩
  ·clear hL; rintro n_28 a w ⟨v_27, hJ⟩; refine hJ.go fun hL => ?_
   clear hJ; obtain ⟨m_28, o_28, rfl, hG, hO1_28, hO2_28⟩ := iter_step hL; clear hL; rw [hs_28] at hG; refine sq ?_; refine rg ?_; refine ra [] f0 [(9, B (decide (v_27 < ((p_0.Entries.length : Nat) : Int))))] ?_; refine tN ?_; refine sq ?_; rcases ifB_cases hG with ⟨h_29, hG⟩ | ⟨h_29, hG⟩
   ·refine sb 9 (bt h_29) ?_; refine ct ?_; refine kS ?_; refine tN ?_; refine sq ?_; refine bk ?_; refine sq ?_; replace hG := bind_some hG; obtain ⟨v_30, hy_30, hG⟩ := hG; refine rg ?_; refine fx inf22 (gd' (RowC p_0.Entries_A p_0.Entries_c KEntry.cells tr p_0.Entries) 0) hy_30 fun b_31 o_32 hi_30 => ?_
    refine rn 3 [(1, 0, 0, 0), (0, 3, 0, 0)] (fc (hi_30 .i64) f0) [(10, I v_27), (12, .agg #[U v_30.Doc, I v_30.Stamp.Lo, I v_30.Stamp.Hi])] ?_; refine l1 ?_; refine nw 4 vp [U 0, I 0, I 0] 36 fun g_33 => ?_
    refine rn 1 [] f0 [(3, I v_27)] ?_; refine l1 ?_; refine sr 0 g_33 [(0, U v_30.Doc), (1, I v_30.Stamp.Lo), (2, I v_30.Stamp.Hi)] ?_; refine nl ?_; refine tN ?_; obtain ⟨o_40, hG, hG_40⟩ := bind_some hG; refine jn (fun K E a w => ∃ (v_41 : Bool), Js S0 w0 45 ([(34, B v_41)] ++ K) (se E [2, 3]) (v_41 = o_40) a w) ?_ ?_
    ·replace hG := bind_some hG; obtain ⟨v_34, hy_34, hG⟩ := hG; replace hG := ifB_cases hG; rcases hG with ⟨h_35, hG⟩ | ⟨h_35, hG⟩
     ·replace hG := ifB_cases hG; rcases hG with ⟨h_36, hG⟩ | ⟨h_36, hG⟩
      ·replace hG := bind_some hG; obtain ⟨v_37, hy_37, hG⟩ := hG; refine qb ?_; refine qn 2 [(0, 3, 0, 0)] f0 [(14, .agg #[U v_30.Doc, I v_30.Stamp.Lo, I v_30.Stamp.Hi])] ?_; refine qc 15 (z_office_logged_formed F (⟨v_30⟩ : Koffice_logged) _ hy_34) hT trivial ?_; refine qn 2 [] f0 [(17, B (!v_34))] ?_; refine sb 17 (nt h_35) ?_; refine qn 3 [] f0 [(20, B (decide (v_27 > 0)))] ?_; refine sb 20 (bt h_36) ?_; refine fx inf22 (gd' (RowC p_0.Entries_A p_0.Entries_c KEntry.cells tr p_0.Entries) 2) hy_37 fun b_38 o_39 hi_37 => ?_
       refine qa [(2, 1, 1, 1), (1, 1, 4, 1), (2, 0, 0, 0), (2, 1, 0, 1)] (fc (hi_37 .i64) f0) [(34, B (decide (v_30.Stamp.Lo < v_37.Stamp.Lo)))] ?_; refine tN ?_; exact fun a w S hK hE => ⟨decide (v_30.Stamp.Lo < v_37.Stamp.Lo), S, hK.wk, hE.sel [3, 4], Option.some.inj hG⟩
      ·refine qb ?_; refine qn 2 [(0, 3, 0, 0)] f0 [(14, .agg #[U v_30.Doc, I v_30.Stamp.Lo, I v_30.Stamp.Hi])] ?_; refine qc 15 (z_office_logged_formed F (⟨v_30⟩ : Koffice_logged) _ hy_34) hT trivial ?_; refine qn 2 [] f0 [(17, B (!v_34))] ?_; refine sb 17 (nt h_35) ?_; refine qn 3 [] f0 [(20, B (decide (v_27 > 0)))] ?_; refine sb 20 (bf h_36) ?_; refine qa [] f0 [(34, B false)] ?_; refine tN ?_; exact fun a w S hK hE => ⟨false, S, hK.wk, hE.sel [2, 3], Option.some.inj hG⟩
     ·refine qb ?_; refine qn 2 [(0, 3, 0, 0)] f0 [(14, .agg #[U v_30.Doc, I v_30.Stamp.Lo, I v_30.Stamp.Hi])] ?_; refine qc 15 (z_office_logged_formed F (⟨v_30⟩ : Koffice_logged) _ hy_34) hT trivial ?_; refine qn 2 [] f0 [(17, B (!v_34))] ?_; refine sb 17 (nf h_35) ?_; refine qa [] f0 [(34, B true)] ?_; refine tN ?_; exact fun a w S hK hE => ⟨true, S, hK.wk, hE.sel [2, 3], Option.some.inj hG⟩
    ·rintro a w ⟨v_41, hJ⟩; refine hJ.go fun ho_ => ?_
     clear hJ; subst ho_; replace hG := hG_40; rcases ifB_cases hG with ⟨h_42, hG⟩ | ⟨h_42, hG⟩
     ·refine sb 34 (bt h_42) ?_; refine ct ?_; refine sq ?_; refine rg ?_; refine ra [] f0 [(2, B false)] ?_; refine tN ?_; refine kR ?_; refine hR ?_; refine tR ?_; refine tR ?_; have he_ := hO2_28 _ (Option.some.inj hG).symm; subst he_; replace hG := hG_28; refine hR ?_; refine tR ?_; obtain rfl := Option.some.inj hG; replace hG := hG_43; obtain rfl := Option.some.inj hG; exact rt []
     ·refine sb 34 (bf h_42) ?_; refine cf ?_; refine kS ?_; refine hN ?_; refine tN ?_; refine rg ?_; refine ra [] f0 [(8, I (IntKind.i64.wrap (v_27 + 1)))] ?_; refine tN ?_; exact fun a w S hK hE => ⟨m_28, ⟨IntKind.i64.wrap (v_27 + 1), S, hK.wk, hE.sel [0, 1], hO1_28 _ (Option.some.inj hG).symm⟩, Nat.lt_succ_self _⟩
   ·refine sb 9 (bf h_29) ?_; refine cf ?_; refine kX ?_; refine tX ?_; refine tX ?_; have he_ := hO2_28 _ (Option.some.inj hG).symm; subst he_; replace hG := hG_28; refine hH ?_; refine tN ?_; exact fun a w S hK hE => ⟨S, hK.wk, hE.sel [0, 1], Option.some.inj hG⟩
 ·rintro a w hJ; refine hJ.go fun ho_ => ?_
  clear hJ; subst ho_; replace hG := hG_43; obtain ⟨o_46, hG, hG_46⟩ := bind_some hG; refine jn (fun K E a w => ∃ (v_47 : Bool), Js S0 w0 45 ([(2, B v_47)] ++ K) (se E []) (v_47 = o_46) a w) ?_ ?_
  ·replace hG := bind_some hG; obtain ⟨v_44, hy_44, hG⟩ := hG; replace hG := ifB_cases hG; rcases hG with ⟨h_45, hG⟩ | ⟨h_45, hG⟩
   ·refine rg ?_; refine rn 2 [(1, 1, 1, 0)] f0 [(37, I p_0.ID)] ?_; refine l1 ?_; refine cl 38 (z_office_between F p_0.ID 1 16 _ hy_44) hT trivial ?_; refine rn 1 [] f0 [(39, B v_44)] ?_; refine sb 39 (bt h_45) ?_; refine ra [(1, 1, 1, 1)] f0 [(2, B (decide (((p_0.Entries.length : Nat) : Int) ≤ 4096)))] ?_; refine tN ?_; exact fun a w S hK hE => ⟨decide (((p_0.Entries.length : Nat) : Int) ≤ 4096), S, hK.wk, hE.sel [], Option.some.inj hG⟩
   ·refine rg ?_; refine rn 2 [(1, 1, 1, 0)] f0 [(37, I p_0.ID)] ?_; refine l1 ?_; refine cl 38 (z_office_between F p_0.ID 1 16 _ hy_44) hT trivial ?_; refine rn 1 [] f0 [(39, B v_44)] ?_; refine sb 39 (bf h_45) ?_; refine ra [] f0 [(2, B false)] ?_; refine tN ?_; exact fun a w S hK hE => ⟨false, S, hK.wk, hE.sel [], Option.some.inj hG⟩
  ·rintro a w ⟨v_47, hJ⟩; refine hJ.go fun ho_ => ?_
   clear hJ; subst ho_; replace hG := hG_46; refine kR ?_; obtain rfl := Option.some.inj hG; exact rt []
def G_office_root (F : Nat) (p_0 : KOffice) (p_1 : Int) : Option (Int × Int) :=
  Option.bind (slI p_0.Entries 0 p_1) (fun v_2 =>
  Option.bind (Option.bind (Option.bind (iter (σ := Int × (List Int)) (ρ := (List Int)) (un2 fun (v_23 : Int) (v_24 : (List Int)) => 
          (ifB (decide (v_23 < ((v_2.length : Nat) : Int)))
            (Option.bind (ixI v_2 v_23) (fun v_29 =>
            Option.bind (G_office_Leaf F v_29) (fun v_33 =>
            Option.bind (apG 8 v_24 ([v_33] : List Int)) (fun v_35 =>
            some (.inl (IntKind.i64.wrap (v_23 + 1), v_35))))))
            (some (.inr v_24)) : Option ((Int × (List Int)) ⊕ (List Int)))) F (0, ([] : List Int))) (fun (v_36 : (List Int)) => 
        some v_36) : Option ((List Int))) (fun (v_40 : (List Int)) => 
      some v_40) : Option ((List Int))) (fun (v_43 : (List Int)) => 
    Option.bind (G_tree_Root F v_43) (un2 fun v_47 v_48 =>
    some (v_47, v_48))))
set_option maxRecDepth 100000 in
set_option maxHeartbeats 16000000 in
theorem z_office_root (F : Nat) (p_0 : KOfficeL) (p_1 : Int) (r : Int × Int) (hG : G_office_root F p_0.p p_1 = some r) :
  Cf Tryd.prog 36 [.agg #[I p_0.ID, .slice p_0.Entries_A p_0.Entries.length p_0.Entries_c], I p_1] [KOfficeL.ok p_0] (.tuple #[U r.1, I r.2]) := by
 unfold G_office_root at hG; refine fi Tryd.func36 rfl rfl (mc KOfficeL.mv m0) fun S0 w0 hT => ?_
 refine sq ?_; refine rg ?_; refine l1 ?_; refine nw 2 vp [I p_0.ID, .slice p_0.Entries_A p_0.Entries.length p_0.Entries_c] 24 fun g_1 => ?_
 refine ra [] f0 [] ?_; refine tN ?_; refine sq ?_; replace hG := bind_some hG; obtain ⟨v_2, hy_2, hG⟩ := hG; replace hG := bind_some hG; obtain ⟨v_43o, hy_46, hG⟩ := hG; replace hG := bind_some hG; obtain ⟨⟨v_47, v_48⟩, hy_47, hG⟩ := hG; refine rg ?_; refine fp false true inf22 (gm (KOfficeL.ok p_0) 1 fun _ _ h => h.f_Entries) hy_2 fun v_2_A v_2_c hp_2 => ?_
 refine rn 4 [(1, 1, 1, 1), (1, 0, 0, 0)] (fc (hp_2 .i64 .i64) f0) [(9, .slice v_2_A v_2.length v_2_c)] ?_; refine l1 ?_; refine ci 10 (args := [.slice v_2_A v_2.length v_2_c, .func (.func 62) #[] #[]]) (fun E e w => ∃ (v_43 : List Int), ∃ (v_44_A : Option Addr), ∃ (v_45_c : Nat), Rs S0 w0 (.slice v_44_A v_43.length v_45_c) ([.dat (RowC p_0.Entries_A p_0.Entries_c KEntry.cells tr p_0.Entries), .own 25 1 (.slice v_44_A v_43.length v_45_c) v_43.length (v_43.flatMap c_u64)] ++ se E [0, 1]) (v_43 = v_43o) e w) Tryd.func65 rfl rfl ?_ ?_
 ·replace hG := hy_46; refine sq ?_; refine rg ?_; refine ra [] f0 [] ?_; refine tN ?_; refine sq ?_; refine rg ?_; refine ra [] f0 [(5, .slice none 0 0)] ?_; refine tN ?_; obtain ⟨o_85, hG, hG_85⟩ := bind_some hG; refine jn (fun K E a w => ∃ (v_86 : List Int), ∃ (v_87_A : Option Addr), ∃ (v_88_c : Nat), Js S0 w0 22 ([(5, .slice v_87_A v_86.length v_88_c)] ++ K) ([.dat (RowC p_0.Entries_A p_0.Entries_c KEntry.cells tr p_0.Entries), .own 25 1 (.slice v_87_A v_86.length v_88_c) v_86.length (v_86.flatMap c_u64)] ++ se E [0, 1]) (v_86 = o_85) a w) ?_ ?_
  ·refine sq ?_; refine rg ?_; refine ra [] f0 [(8, .slice v_2_A v_2.length v_2_c), (9, I ((v_2.length : Nat) : Int)), (10, I 0)] ?_; refine tN ?_; refine bk ?_; obtain ⟨e_73, hL, hG_73⟩ := bind_some hG; clear hG; obtain ⟨stp_73, hs_73, hL⟩ := iter_gen hL; refine lp (fun K E n_ a w => ∃ (v_69 : Int), ∃ (v_70 : List Int), ∃ (v_71_A : Option Addr), ∃ (v_72_c : Nat), Js S0 w0 22 ([(5, .slice v_71_A v_70.length v_72_c), (10, I v_69)] ++ K) ([.dat (RowC p_0.Entries_A p_0.Entries_c KEntry.cells tr p_0.Entries), .own 25 1 (.slice v_71_A v_70.length v_72_c) v_70.length (v_70.flatMap c_u64)] ++ se E [0, 1]) (iter stp_73 n_ (v_69, v_70) = some e_73) a w) F ?_ ?_
   ·refine fm (RowC p_0.Entries_A p_0.Entries_c KEntry.cells tr p_0.Entries) (gm (KOfficeL.ok p_0) 2 fun _ _ h => h.f_Entries) ?_; refine on 25 1 ?_; exact fun a w S hK hE => ⟨0, ([] : List Int), none, 0, S, hK.wk, hE.sel [1, 0, 2, 3], hL⟩
   ·clear hL; rintro n_73 a w ⟨v_69, v_70, v_71_A, v_72_c, hJ⟩; refine hJ.go fun hL => ?_
    clear hJ; obtain ⟨m_73, o_73, rfl, hG, hO1_73, hO2_73⟩ := iter_step hL; clear hL; rw [hs_73] at hG; refine sq ?_; refine rg ?_; refine ra [] f0 [(11, B (decide (v_69 < ((v_2.length : Nat) : Int))))] ?_; refine tN ?_; refine sq ?_; rcases ifB_cases hG with ⟨h_74, hG⟩ | ⟨h_74, hG⟩
    ·refine sb 11 (bt h_74) ?_; refine ct ?_; refine kS ?_; refine tN ?_; refine sq ?_; refine bk ?_; refine sq ?_; replace hG := bind_some hG; obtain ⟨v_75, hy_75, hG⟩ := hG; refine rg ?_; refine fx inf22 (gd' (RowC v_2_A v_2_c KEntry.cells tr v_2) 2) hy_75 fun b_76 o_77 hi_75 => ?_
     refine rn 2 [(0, 0, 0, 0), (0, 3, 0, 0)] (fc (hi_75 .i64) f0) [(13, .agg #[U v_75.Doc, I v_75.Stamp.Lo, I v_75.Stamp.Hi])] ?_; refine l1 ?_; refine nw 7 vp [U 0, I 0, I 0] 36 fun g_78 => ?_
     refine l1 ?_; refine sr 0 g_78 [(0, U v_75.Doc), (1, I v_75.Stamp.Lo), (2, I v_75.Stamp.Hi)] ?_; refine nl ?_; refine tN ?_; replace hG := bind_some hG; obtain ⟨v_79, hy_79, hG⟩ := hG; replace hG := bind_some hG; obtain ⟨v_81, hy_81, hG⟩ := hG; refine rg ?_; refine rn 3 [(2, 3, 0, 0)] f0 [(14, .slice v_71_A v_70.length v_72_c), (15, .func (.func 62) #[] #[]), (16, .agg #[U v_75.Doc, I v_75.Stamp.Lo, I v_75.Stamp.Hi])] ?_; refine l1 ?_; refine cl 17 (z_office_Leaf F v_75 _ hy_79) hT trivial ?_; refine l1 ?_; refine nw 18 (vs 1) [U v_79] 25 fun g_80 => ?_
     refine l1 ?_; refine ap 4 19 v_71_A v_72_c v_70 ([v_79] : List Int) inf32 (bA (f := c_u64) (ok := tr) (l := ([v_79] : List Int)) g_80 0 et.a) hy_81 one_u64 fun v_81_A v_81_c _ => ?_
     refine ra [] f0 [(5, .slice v_81_A v_81.length v_81_c)] ?_; refine hN ?_; refine tN ?_; refine rg ?_; refine ra [] f0 [(10, I (IntKind.i64.wrap (v_69 + 1)))] ?_; refine tN ?_; exact fun a w S hK hE => ⟨m_73, ⟨IntKind.i64.wrap (v_69 + 1), v_81, v_81_A, v_81_c, S, hK.wk, hE.sel [3, 4, 5, 6], hO1_73 _ (Option.some.inj hG).symm⟩, Nat.lt_succ_self _⟩
    ·refine sb 11 (bf h_74) ?_; refine cf ?_; refine kX ?_; refine tX ?_; refine tX ?_; have he_ := hO2_73 _ (Option.some.inj hG).symm; subst he_; replace hG := hG_73; refine hH ?_; refine tN ?_; exact fun a w S hK hE => ⟨v_70, v_71_A, v_72_c, S, hK.wk, hE.sel [0, 1, 2, 3], Option.some.inj hG⟩
  ·rintro a w ⟨v_86, v_87_A, v_88_c, hJ⟩; refine hJ.go fun ho_ => ?_
   clear hJ; subst ho_; replace hG := hG_85; refine sq ?_; refine rg ?_; refine ra [] f0 [(4, .slice v_87_A v_86.length v_88_c)] ?_; refine tN ?_; refine kR ?_; refine ri [] (.slice v_87_A v_86.length v_88_c) ?_; exact fun a w S hK hE => ⟨v_86, v_87_A, v_88_c, rfl, ⟨S, hE.sel [0, 1, 2, 3]⟩, Option.some.inj hG⟩
 ·rintro e w ⟨v_43, v_44_A, v_45_c, hJ⟩; refine hJ.go fun ho_ => ?_
  clear hJ; subst ho_; refine l1 ?_; refine cl 11 (z_tree_Root F v_44_A v_45_c v_43 _ hy_47) hT ⟨oa 1 et.a, trivial⟩ ?_; refine ra [] f0 [(4, U v_47), (5, I v_48)] ?_; refine tN ?_; refine kR ?_; obtain rfl := Option.some.inj hG; exact rt []
end Go.Proofs.YtiijddjfiojfaaaDoor
namespace Go.Proofs.YtiijddjfiojfaaaDoor
open Go.RowKit Go.Maps
def G_office_Right (F : Nat) (p_0 : Int) (p_1 : KHead) : Option (Bool × Int) :=
 Option.bind (Option.bind (G_office_isPublic F p_0) (fun v_2 =>
  ifB (v_2)
   (Option.bind (G_office_formed F p_1) (fun v_4 =>
   some (!v_4)))
   (some true)) : Option (Bool)) (fun (v_6 : Bool) =>
  ifB (v_6)
   (some (false, 1))
   (Option.bind (G_office_message F p_1) (fun v_8 =>
   Option.bind (G_group_Verify F p_0 p_1.Sig v_8) (un2 fun v_9 v_10 =>
   some (v_9, v_10)))))
set_option maxRecDepth 100000 in
set_option maxHeartbeats 16000000 in
theorem z_office_Right (F : Nat) (p_0 : Int) (p_1 : KHead) (r : Bool × Int) (hG : G_office_Right F p_0 p_1 = some r) :
  Cf Tryd.prog 44 [I p_0, .agg #[I p_1.Office, I p_1.Size, U p_1.Root, I p_1.Sig.C, I p_1.Sig.S]] [] (.tuple #[B r.1, I r.2]) := by
 unfold G_office_Right at hG; refine fi Tryd.func44 rfl rfl m0 fun S0 w0 hT => ?_
 refine sq ?_; refine rg ?_; refine l1 ?_; refine nw 3 vp [I p_1.Office, I p_1.Size, U p_1.Root, I p_1.Sig.C, I p_1.Sig.S] 29 fun g_1 => ?_
 refine ra [] f0 [] ?_; refine tN ?_; refine sq ?_; obtain ⟨o_5, hG, hG_5⟩ := bind_some hG; refine jn (fun K E a w => ∃ (v_6 : Bool), Js S0 w0 22 ([(13, B v_6)] ++ K) (se E [0]) (v_6 = o_5) a w) ?_ ?_
 ·replace hG := bind_some hG; obtain ⟨v_2, hy_2, hG⟩ := hG; replace hG := ifB_cases hG; rcases hG with ⟨h_3, hG⟩ | ⟨h_3, hG⟩
  ·replace hG := bind_some hG; obtain ⟨v_4, hy_4, hG⟩ := hG; refine rg ?_; refine rn 1 [] f0 [(6, I p_0)] ?_; refine l1 ?_; refine cl 7 (z_office_isPublic F p_0 _ hy_2) hT trivial ?_; refine rn 2 [] f0 [(9, B (!v_2))] ?_; refine sb 9 (nt h_3) ?_; refine rn 1 [(0, 5, 0, 0)] f0 [(10, .agg #[I p_1.Office, I p_1.Size, U p_1.Root, I p_1.Sig.C, I p_1.Sig.S])] ?_; refine l1 ?_; refine cl 11 (z_office_formed F p_1 _ hy_4) hT trivial ?_; refine ra [] f0 [(13, B (!v_4))] ?_; refine tN ?_; exact fun a w S hK hE => ⟨!v_4, S, hK.wk, hE.sel [0], Option.some.inj hG⟩
  ·refine rg ?_; refine rn 1 [] f0 [(6, I p_0)] ?_; refine l1 ?_; refine cl 7 (z_office_isPublic F p_0 _ hy_2) hT trivial ?_; refine rn 2 [] f0 [(9, B (!v_2))] ?_; refine sb 9 (nf h_3) ?_; refine ra [] f0 [(13, B true)] ?_; refine tN ?_; exact fun a w S hK hE => ⟨true, S, hK.wk, hE.sel [0], Option.some.inj hG⟩
 ·rintro a w ⟨v_6, hJ⟩; refine hJ.go fun ho_ => ?_
  clear hJ; subst ho_; replace hG := hG_5; rcases ifB_cases hG with ⟨h_7, hG⟩ | ⟨h_7, hG⟩
  ·refine sb 13 (bt h_7) ?_; refine ct ?_; refine sq ?_; refine rg ?_; refine ra [] f0 [(4, B false), (5, I 1)] ?_; refine tN ?_; refine kR ?_; refine tR ?_; obtain rfl := Option.some.inj hG; exact rt []
  ·refine sb 13 (bf h_7) ?_; refine cf ?_; refine kS ?_; refine tN ?_; refine sq ?_; replace hG := bind_some hG; obtain ⟨v_8o, hy_8, hG⟩ := hG; replace hG := bind_some hG; obtain ⟨⟨v_9, v_10⟩, hy_9, hG⟩ := hG; refine hb [0] ?_; refine ht [0] [0, 1, 2, 3] [(2, 2, 0, 3), (0, 5, 0, 0)] f0 [(14, I p_0), (16, .agg #[I p_1.Sig.C, I p_1.Sig.S]), (17, .agg #[I p_1.Office, I p_1.Size, U p_1.Root, I p_1.Sig.C, I p_1.Sig.S])] ?_; refine ho [4] ⟨?_, trivial⟩; refine h1 ?_; refine cn 18 (z_office_message F p_1 _ hy_8) hT (fun _ => (mr tr_mv m0)) trivial ?_; rintro ⟨v_8_A, v_8_c, v_8⟩ hq_8; obtain rfl : v_8 = v_8o := hq_8.symm; refine hk [1] ?_; refine ho [5] ⟨?_, trivial⟩; refine h1 ?_; refine cl 19 (z_group_Verify F p_0 p_1.Sig v_8_A v_8_c v_8 _ hy_9) hT ⟨ga 0, trivial⟩ ?_; refine hk [1] ?_; refine ht [1] [6, 7, 8, 9] [] f0 [(4, B v_9), (5, I v_10)] ?_; refine he ?_; refine tN ?_; refine kR ?_; obtain rfl := Option.some.inj hG; exact rt []
def G_cross_has (F : Nat) (p_0 : KOffice) (p_1 : KHead) : Option (Bool) :=
  Option.bind (ifB ((p_1.Office == p_0.ID))
      (some (decide (p_1.Size > ((p_0.Entries.length : Nat) : Int))))
      (some true) : Option (Bool)) (fun (v_5 : Bool) => 
    ifB (v_5)
      (some false)
      (Option.bind (G_cross_values F p_0 p_1.Size) (fun v_7 =>
      Option.bind (G_tree_Root F v_7) (un2 fun v_8 v_9 =>
      Option.bind (ifB ((v_9 == 0))
          (some (v_8 == p_1.Root))
          (some false) : Option (Bool)) (fun (v_12 : Bool) => 
        some v_12)))))
set_option maxRecDepth 100000 in
set_option maxHeartbeats 16000000 in
theorem z_cross_has (F : Nat) (p_0 : KOfficeL) (p_1 : KHead) (r : Bool) (hG : G_cross_has F p_0.p p_1 = some r) :
  Cf Tryd.prog 28 [.agg #[I p_0.ID, .slice p_0.Entries_A p_0.Entries.length p_0.Entries_c], .agg #[I p_1.Office, I p_1.Size, U p_1.Root, I p_1.Sig.C, I p_1.Sig.S]] [KOfficeL.ok p_0] (B r) := by
 unfold G_cross_has at hG; refine fi Tryd.func28 rfl rfl (mc KOfficeL.mv m0) fun S0 w0 hT => ?_
 refine sq ?_; refine rg ?_; refine l1 ?_; refine nw 2 vp [I p_0.ID, .slice p_0.Entries_A p_0.Entries.length p_0.Entries_c] 24 fun g_1 => ?_
 refine l1 ?_; refine nw 3 vp [I p_1.Office, I p_1.Size, U p_1.Root, I p_1.Sig.C, I p_1.Sig.S] 29 fun g_2 => ?_
 refine ra [] f0 [] ?_; refine tN ?_; refine sq ?_; obtain ⟨o_4, hG, hG_4⟩ := bind_some hG; refine jn (fun K E a w => ∃ (v_5 : Bool), Js S0 w0 36 ([(19, B v_5)] ++ K) ([.dat (RowC p_0.Entries_A p_0.Entries_c KEntry.cells tr p_0.Entries)] ++ se E [0, 1]) (v_5 = o_4) a w) ?_ ?_
 ·replace hG := ifB_cases hG; rcases hG with ⟨h_3, hG⟩ | ⟨h_3, hG⟩
  ·refine rg ?_; refine rn 6 [(1, 1, 0, 0), (1, 1, 1, 0)] f0 [(12, B (!(p_1.Office == p_0.ID)))] ?_; refine sb 12 (nt h_3) ?_; refine ra [(1, 1, 0, 1), (1, 1, 1, 1)] f0 [(19, B (decide (p_1.Size > ((p_0.Entries.length : Nat) : Int))))] ?_; refine tN ?_; refine fm (RowC p_0.Entries_A p_0.Entries_c KEntry.cells tr p_0.Entries) (gm (KOfficeL.ok p_0) 2 fun _ _ h => h.f_Entries) ?_; exact fun a w S hK hE => ⟨decide (p_1.Size > ((p_0.Entries.length : Nat) : Int)), S, hK.wk, hE.sel [0, 1, 2], Option.some.inj hG⟩
  ·refine rg ?_; refine rn 6 [(1, 1, 0, 0), (1, 1, 1, 0)] f0 [(12, B (!(p_1.Office == p_0.ID)))] ?_; refine sb 12 (nf h_3) ?_; refine ra [] f0 [(19, B true)] ?_; refine tN ?_; refine fm (RowC p_0.Entries_A p_0.Entries_c KEntry.cells tr p_0.Entries) (gm (KOfficeL.ok p_0) 2 fun _ _ h => h.f_Entries) ?_; exact fun a w S hK hE => ⟨true, S, hK.wk, hE.sel [0, 1, 2], Option.some.inj hG⟩
 ·rintro a w ⟨v_5, hJ⟩; refine hJ.go fun ho_ => ?_
  clear hJ; subst ho_; replace hG := hG_4; rcases ifB_cases hG with ⟨h_6, hG⟩ | ⟨h_6, hG⟩
  ·refine sb 19 (bt h_6) ?_; refine ct ?_; refine sq ?_; refine rg ?_; refine ra [] f0 [(4, B false)] ?_; refine tN ?_; refine kR ?_; refine tR ?_; obtain rfl := Option.some.inj hG; exact rt []
  ·refine sb 19 (bf h_6) ?_; refine cf ?_; refine kS ?_; refine tN ?_; refine sq ?_; replace hG := bind_some hG; obtain ⟨v_7o, hy_7, hG⟩ := hG; replace hG := bind_some hG; obtain ⟨⟨v_8, v_9⟩, hy_8, hG⟩ := hG; refine rg ?_; refine rn 3 [(0, 2, 2, 0), (1, 1, 1, 1)] f0 [(21, .agg #[I p_0.ID, .slice p_0.Entries_A p_0.Entries.length p_0.Entries_c]), (23, I p_1.Size)] ?_; refine l1 ?_; refine cn 24 (z_cross_values F p_0 p_1.Size _ hy_7) hT (fun _ => (mr tr_mv m0)) ⟨(((gd' (RowC p_0.Entries_A p_0.Entries_c KEntry.cells tr p_0.Entries) 0)).m fun _ _ h => ⟨h⟩), trivial⟩ ?_; rintro ⟨v_7_A, v_7_c, v_7⟩ hq_7; obtain rfl : v_7 = v_7o := hq_7.symm; refine l1 ?_; refine cl 25 (z_tree_Root F v_7_A v_7_c v_7 _ hy_8) hT ⟨ga 0, trivial⟩ ?_; refine ra [] f0 [(5, U v_8), (6, I v_9)] ?_; refine tN ?_; obtain ⟨o_11, hG, hG_11⟩ := bind_some hG; refine jn (fun K E a w => ∃ (v_12 : Bool), Js S0 w0 36 ([(4, B v_12)] ++ K) (se E []) (v_12 = o_11) a w) ?_ ?_
   ·replace hG := ifB_cases hG; rcases hG with ⟨h_10, hG⟩ | ⟨h_10, hG⟩
    ·refine rg ?_; refine rn 3 [] f0 [(30, B (v_9 == 0))] ?_; refine sb 30 (bt h_10) ?_; refine ra [(2, 1, 2, 2)] f0 [(4, B (v_8 == p_1.Root))] ?_; refine tN ?_; exact fun a w S hK hE => ⟨(v_8 == p_1.Root), S, hK.wk, hE.sel [], Option.some.inj hG⟩
    ·refine rg ?_; refine rn 3 [] f0 [(30, B (v_9 == 0))] ?_; refine sb 30 (bf h_10) ?_; refine ra [] f0 [(4, B false)] ?_; refine tN ?_; exact fun a w S hK hE => ⟨false, S, hK.wk, hE.sel [], Option.some.inj hG⟩
   ·rintro a w ⟨v_12, hJ⟩; refine hJ.go fun ho_ => ?_
    clear hJ; subst ho_; replace hG := hG_11; refine kR ?_; obtain rfl := Option.some.inj hG; exact rt []
def G_office_Prove (F : Nat) (p_0 : KOffice) (p_1 : KHead) (p_2 : Int) : Option (KReceipt × Int) :=
  Option.bind (Option.bind (G_office_Valid F p_0) (fun v_4 =>
    ifB (v_4)
      (Option.bind (G_office_formed F p_1) (fun v_6 =>
      ifB (v_6)
        (ifB (decide (p_1.Size > ((p_0.Entries.length : Nat) : Int)))
          (some true)
          (Option.bind (G_office_between F p_2 0 (IntKind.i64.wrap (p_1.Size - 1))) (fun v_9 =>
          some (!v_9))))
        (some true)))
      (some true)) : Option (Bool)) (fun (v_11 : Bool) => 
    ifB (v_11)
      (some ((⟨(⟨0, 0, 0, (⟨0, 0⟩ : KSig)⟩ : KHead), 0, (⟨0, (⟨0, 0⟩ : KInterval)⟩ : KEntry), ([] : List Int)⟩ : KReceipt), 1))
      (Option.bind (G_office_root F p_0 p_1.Size) (un2 fun v_13 v_14 =>
      Option.bind (ifB ((v_14 == 0))
          (ifB ((p_1.Office == p_0.ID))
            (some (!(v_13 == p_1.Root)))
            (some true))
          (some true) : Option (Bool)) (fun (v_18 : Bool) => 
        ifB (v_18)
          (some ((⟨(⟨0, 0, 0, (⟨0, 0⟩ : KSig)⟩ : KHead), 0, (⟨0, (⟨0, 0⟩ : KInterval)⟩ : KEntry), ([] : List Int)⟩ : KReceipt), 33))
          (Option.bind (slI p_0.Entries 0 p_1.Size) (fun v_20 =>
          Option.bind (Option.bind (Option.bind (iter (σ := Int × (List Int)) (ρ := (List Int)) (un2 fun (v_41 : Int) (v_42 : (List Int)) => 
                  (ifB (decide (v_41 < ((v_20.length : Nat) : Int)))
                    (Option.bind (ixI v_20 v_41) (fun v_47 =>
                    Option.bind (G_office_Leaf F v_47) (fun v_51 =>
                    Option.bind (apG 8 v_42 ([v_51] : List Int)) (fun v_53 =>
                    some (.inl (IntKind.i64.wrap (v_41 + 1), v_53))))))
                    (some (.inr v_42)) : Option ((Int × (List Int)) ⊕ (List Int)))) F (0, ([] : List Int))) (fun (v_54 : (List Int)) => 
                some v_54) : Option ((List Int))) (fun (v_58 : (List Int)) => 
              some v_58) : Option ((List Int))) (fun (v_61 : (List Int)) => 
            Option.bind (G_tree_Include F v_61 p_2) (un2 fun v_65 v_66 =>
            ifB ((v_66 == 0))
              (Option.bind (ixI p_0.Entries p_2) (fun v_108 =>
              some ((⟨p_1, p_2, v_108, v_65⟩ : KReceipt), 0)))
              (some ((⟨(⟨0, 0, 0, (⟨0, 0⟩ : KSig)⟩ : KHead), 0, (⟨0, (⟨0, 0⟩ : KInterval)⟩ : KEntry), ([] : List Int)⟩ : KReceipt), v_66))))))))))
set_option maxRecDepth 100000 in
set_option maxHeartbeats 16000000 in
theorem z_office_Prove (F : Nat) (p_0 : KOfficeL) (p_1 : KHead) (p_2 : Int) (r : KReceipt × Int) (hG : G_office_Prove F p_0.p p_1 p_2 = some r) :
  Cn Tryd.prog 32 [.agg #[I p_0.ID, .slice p_0.Entries_A p_0.Entries.length p_0.Entries_c], .agg #[I p_1.Office, I p_1.Size, U p_1.Root, I p_1.Sig.C, I p_1.Sig.S], I p_2] [KOfficeL.ok p_0] (fun q : KReceiptL => r.1 = q.p) (fun q => .tuple #[.agg #[I q.Head.Office, I q.Head.Size, U q.Head.Root, I q.Head.Sig.C, I q.Head.Sig.S, I q.Index, U q.Entry.Doc, I q.Entry.Stamp.Lo, I q.Entry.Stamp.Hi, .slice q.Path_A q.Path.length q.Path_c], I r.2]) (fun q => [KReceiptL.ok q]) := by
 unfold G_office_Prove at hG; refine fin Tryd.func32 rfl rfl (mc KOfficeL.mv m0) fun S0 w0 hT => ?_
 refine sq ?_; refine rg ?_; refine l1 ?_; refine nw 3 vp [I p_0.ID, .slice p_0.Entries_A p_0.Entries.length p_0.Entries_c] 24 fun g_1 => ?_
 refine l1 ?_; refine nw 4 vp [I p_1.Office, I p_1.Size, U p_1.Root, I p_1.Sig.C, I p_1.Sig.S] 29 fun g_2 => ?_
 refine l1 ?_; refine nw 6 vp [I 0, I 0, U 0, I 0, I 0, I 0, U 0, I 0, I 0, .slice none 0 0] 38 fun g_3 => ?_
 refine ra [] f0 [] ?_; refine tN ?_; refine sq ?_; obtain ⟨o_10, hG, hG_10⟩ := bind_some hG; refine jn (fun K E a w => ∃ (v_11 : Bool), Js S0 w0 84 ([(35, B v_11)] ++ K) ([.dat (RowC p_0.Entries_A p_0.Entries_c KEntry.cells tr p_0.Entries)] ++ se E [0, 1, 2]) (v_11 = o_10) a w) ?_ ?_
 ·replace hG := bind_some hG; obtain ⟨v_4, hy_4, hG⟩ := hG; replace hG := ifB_cases hG; rcases hG with ⟨h_5, hG⟩ | ⟨h_5, hG⟩
  ·replace hG := bind_some hG; obtain ⟨v_6, hy_6, hG⟩ := hG; replace hG := ifB_cases hG; rcases hG with ⟨h_7, hG⟩ | ⟨h_7, hG⟩
   ·replace hG := ifB_cases hG; rcases hG with ⟨h_8, hG⟩ | ⟨h_8, hG⟩
    ·refine rg ?_; refine rn 1 [(0, 2, 2, 0)] f0 [(12, .agg #[I p_0.ID, .slice p_0.Entries_A p_0.Entries.length p_0.Entries_c])] ?_; refine l1 ?_; refine cl 13 (z_office_Valid F p_0 _ hy_4) hT ⟨(gi 3).a, trivial⟩ ?_; refine rn 2 [] f0 [(15, B (!v_4))] ?_; refine sb 15 (nt h_5) ?_; refine rn 1 [(0, 5, 1, 0)] f0 [(16, .agg #[I p_1.Office, I p_1.Size, U p_1.Root, I p_1.Sig.C, I p_1.Sig.S])] ?_; refine l1 ?_; refine cl 17 (z_office_formed F p_1 _ hy_6) hT trivial ?_; refine rn 3 [] f0 [(20, B (!v_6))] ?_; refine sb 20 (nt h_7) ?_; refine rn 8 [(1, 1, 1, 1), (1, 1, 2, 1)] f0 [(28, B (decide (p_1.Size > ((p_0.Entries.length : Nat) : Int))))] ?_; refine sb 28 (bt h_8) ?_; refine ra [] f0 [(35, B true)] ?_; refine tN ?_; refine fm (RowC p_0.Entries_A p_0.Entries_c KEntry.cells tr p_0.Entries) (gm (KOfficeL.ok p_0) 3 fun _ _ h => h.f_Entries) ?_; exact fun a w S hK hE => ⟨true, S, hK.wk, hE.sel [0, 1, 2, 3], Option.some.inj hG⟩
    ·replace hG := bind_some hG; obtain ⟨v_9, hy_9, hG⟩ := hG; refine rg ?_; refine rn 1 [(0, 2, 2, 0)] f0 [(12, .agg #[I p_0.ID, .slice p_0.Entries_A p_0.Entries.length p_0.Entries_c])] ?_; refine l1 ?_; refine cl 13 (z_office_Valid F p_0 _ hy_4) hT ⟨(gi 3).a, trivial⟩ ?_; refine rn 2 [] f0 [(15, B (!v_4))] ?_; refine sb 15 (nt h_5) ?_; refine rn 1 [(0, 5, 1, 0)] f0 [(16, .agg #[I p_1.Office, I p_1.Size, U p_1.Root, I p_1.Sig.C, I p_1.Sig.S])] ?_; refine l1 ?_; refine cl 17 (z_office_formed F p_1 _ hy_6) hT trivial ?_; refine rn 3 [] f0 [(20, B (!v_6))] ?_; refine sb 20 (nt h_7) ?_; refine rn 8 [(1, 1, 1, 1), (1, 1, 2, 1)] f0 [(28, B (decide (p_1.Size > ((p_0.Entries.length : Nat) : Int))))] ?_; refine sb 28 (bf h_8) ?_; refine rn 4 [(2, 1, 1, 1)] f0 [(29, I p_2), (32, I (IntKind.i64.wrap (p_1.Size - 1)))] ?_; refine l1 ?_; refine cl 33 (z_office_between F p_2 0 (IntKind.i64.wrap (p_1.Size - 1)) _ hy_9) hT trivial ?_; refine ra [] f0 [(35, B (!v_9))] ?_; refine tN ?_; refine fm (RowC p_0.Entries_A p_0.Entries_c KEntry.cells tr p_0.Entries) (gm (KOfficeL.ok p_0) 3 fun _ _ h => h.f_Entries) ?_; exact fun a w S hK hE => ⟨!v_9, S, hK.wk, hE.sel [0, 1, 2, 3], Option.some.inj hG⟩
   ·refine rg ?_; refine rn 1 [(0, 2, 2, 0)] f0 [(12, .agg #[I p_0.ID, .slice p_0.Entries_A p_0.Entries.length p_0.Entries_c])] ?_; refine l1 ?_; refine cl 13 (z_office_Valid F p_0 _ hy_4) hT ⟨(gi 3).a, trivial⟩ ?_; refine rn 2 [] f0 [(15, B (!v_4))] ?_; refine sb 15 (nt h_5) ?_; refine rn 1 [(0, 5, 1, 0)] f0 [(16, .agg #[I p_1.Office, I p_1.Size, U p_1.Root, I p_1.Sig.C, I p_1.Sig.S])] ?_; refine l1 ?_; refine cl 17 (z_office_formed F p_1 _ hy_6) hT trivial ?_; refine rn 3 [] f0 [(20, B (!v_6))] ?_; refine sb 20 (nf h_7) ?_; refine ra [] f0 [(35, B true)] ?_; refine tN ?_; refine fm (RowC p_0.Entries_A p_0.Entries_c KEntry.cells tr p_0.Entries) (gm (KOfficeL.ok p_0) 3 fun _ _ h => h.f_Entries) ?_; exact fun a w S hK hE => ⟨true, S, hK.wk, hE.sel [0, 1, 2, 3], Option.some.inj hG⟩
  ·refine rg ?_; refine rn 1 [(0, 2, 2, 0)] f0 [(12, .agg #[I p_0.ID, .slice p_0.Entries_A p_0.Entries.length p_0.Entries_c])] ?_; refine l1 ?_; refine cl 13 (z_office_Valid F p_0 _ hy_4) hT ⟨(gi 3).a, trivial⟩ ?_; refine rn 2 [] f0 [(15, B (!v_4))] ?_; refine sb 15 (nf h_5) ?_; refine ra [] f0 [(35, B true)] ?_; refine tN ?_; refine fm (RowC p_0.Entries_A p_0.Entries_c KEntry.cells tr p_0.Entries) (gm (KOfficeL.ok p_0) 3 fun _ _ h => h.f_Entries) ?_; exact fun a w S hK hE => ⟨true, S, hK.wk, hE.sel [0, 1, 2, 3], Option.some.inj hG⟩
 ·rintro a w ⟨v_11, hJ⟩; refine hJ.go fun ho_ => ?_
  clear hJ; subst ho_; replace hG := hG_10; rcases ifB_cases hG with ⟨h_12, hG⟩ | ⟨h_12, hG⟩
  ·refine sb 35 (bt h_12) ?_; refine ct ?_; refine sq ?_; refine rg ?_; refine rn 1 [] f0 [(36, .agg #[I 0, I 0, U 0, I 0, I 0, I 0, U 0, I 0, I 0, .slice none 0 0])] ?_; refine l1 ?_; refine sr 1 g_3 [(0, I 0), (1, I 0), (2, U 0), (3, I 0), (4, I 0), (5, I 0), (6, U 0), (7, I 0), (8, I 0), (9, .slice none 0 0)] ?_; refine ra [] f0 [(7, I 1)] ?_; refine tN ?_; refine kR ?_; refine tR ?_; obtain rfl := Option.some.inj hG; exact rtn [(1, 0, 10)] (⟨(⟨0, 0, 0, (⟨0, 0⟩ : KSig)⟩ : KHead), 0, (⟨0, (⟨0, 0⟩ : KInterval)⟩ : KEntry), none, 0, ([] : List Int)⟩ : KReceiptL) rfl ⟨(((gn : Fd _ (RowC none 0 c_u64 tr ([] : List Int)))).m fun _ _ h => ⟨h⟩), trivial⟩
  ·refine sb 35 (bf h_12) ?_; refine cf ?_; refine kS ?_; refine tN ?_; refine sq ?_; refine sq ?_; replace hG := bind_some hG; obtain ⟨⟨v_13, v_14⟩, hy_13, hG⟩ := hG; refine rg ?_; refine rn 3 [(0, 2, 3, 0), (1, 1, 2, 1)] f0 [(38, .agg #[I p_0.ID, .slice p_0.Entries_A p_0.Entries.length p_0.Entries_c]), (40, I p_1.Size)] ?_; refine l1 ?_; refine cl 41 (z_office_root F p_0 p_1.Size _ hy_13) hT ⟨(((gd' (RowC p_0.Entries_A p_0.Entries_c KEntry.cells tr p_0.Entries) 0)).m fun _ _ h => ⟨h⟩).a, trivial⟩ ?_; refine ra [] f0 [(8, U v_13), (9, I v_14)] ?_; refine tN ?_; obtain ⟨o_17, hG, hG_17⟩ := bind_some hG; refine jn (fun K E a w => ∃ (v_18 : Bool), Js S0 w0 84 ([(58, B v_18)] ++ K) (se E [0, 1, 2, 3]) (v_18 = o_17) a w) ?_ ?_
   ·replace hG := ifB_cases hG; rcases hG with ⟨h_15, hG⟩ | ⟨h_15, hG⟩
    ·replace hG := ifB_cases hG; rcases hG with ⟨h_16, hG⟩ | ⟨h_16, hG⟩
     ·refine rg ?_; refine rn 3 [] f0 [(46, B (!(v_14 == 0)))] ?_; refine sb 46 (nt h_15) ?_; refine rn 7 [(1, 1, 2, 0), (1, 1, 3, 0)] f0 [(53, B (!(p_1.Office == p_0.ID)))] ?_; refine sb 53 (nt h_16) ?_; refine ra [(2, 1, 2, 2)] f0 [(58, B (!(v_13 == p_1.Root)))] ?_; refine tN ?_; exact fun a w S hK hE => ⟨!(v_13 == p_1.Root), S, hK.wk, hE.sel [0, 1, 2, 3], Option.some.inj hG⟩
     ·refine rg ?_; refine rn 3 [] f0 [(46, B (!(v_14 == 0)))] ?_; refine sb 46 (nt h_15) ?_; refine rn 7 [(1, 1, 2, 0), (1, 1, 3, 0)] f0 [(53, B (!(p_1.Office == p_0.ID)))] ?_; refine sb 53 (nf h_16) ?_; refine ra [] f0 [(58, B true)] ?_; refine tN ?_; exact fun a w S hK hE => ⟨true, S, hK.wk, hE.sel [0, 1, 2, 3], Option.some.inj hG⟩
    ·refine rg ?_; refine rn 3 [] f0 [(46, B (!(v_14 == 0)))] ?_; refine sb 46 (nf h_15) ?_; refine ra [] f0 [(58, B true)] ?_; refine tN ?_; exact fun a w S hK hE => ⟨true, S, hK.wk, hE.sel [0, 1, 2, 3], Option.some.inj hG⟩
   ·rintro a w ⟨v_18, hJ⟩; refine hJ.go fun ho_ => ?_
    clear hJ; subst ho_; replace hG := hG_17; rcases ifB_cases hG with ⟨h_19, hG⟩ | ⟨h_19, hG⟩
    ·refine sb 58 (bt h_19) ?_; refine ct ?_; refine sq ?_; refine rg ?_; refine rn 1 [] f0 [(59, .agg #[I 0, I 0, U 0, I 0, I 0, I 0, U 0, I 0, I 0, .slice none 0 0])] ?_; refine l1 ?_; refine sr 1 g_3 [(0, I 0), (1, I 0), (2, U 0), (3, I 0), (4, I 0), (5, I 0), (6, U 0), (7, I 0), (8, I 0), (9, .slice none 0 0)] ?_; refine ra [] f0 [(7, I 33)] ?_; refine tN ?_; refine kR ?_; refine tR ?_; obtain rfl := Option.some.inj hG; exact rtn [(1, 0, 10)] (⟨(⟨0, 0, 0, (⟨0, 0⟩ : KSig)⟩ : KHead), 0, (⟨0, (⟨0, 0⟩ : KInterval)⟩ : KEntry), none, 0, ([] : List Int)⟩ : KReceiptL) rfl ⟨(((gn : Fd _ (RowC none 0 c_u64 tr ([] : List Int)))).m fun _ _ h => ⟨h⟩), trivial⟩
    ·refine sb 58 (bf h_19) ?_; refine cf ?_; refine kS ?_; refine tN ?_; refine sq ?_; replace hG := bind_some hG; obtain ⟨v_20, hy_20, hG⟩ := hG; replace hG := bind_some hG; obtain ⟨v_61o, hy_64, hG⟩ := hG; replace hG := bind_some hG; obtain ⟨⟨v_65o, v_66⟩, hy_65, hG⟩ := hG; refine rg ?_; refine fp false true inf22 (gd' (RowC p_0.Entries_A p_0.Entries_c KEntry.cells tr p_0.Entries) 0) hy_20 fun v_20_A v_20_c hp_20 => ?_
     refine rn 5 [(1, 1, 4, 1), (1, 1, 3, 1), (0, 0, 0, 0)] (fc (hp_20 .i64 .i64) f0) [(65, .slice v_20_A v_20.length v_20_c)] ?_; refine l1 ?_; refine ci 66 (args := [.slice v_20_A v_20.length v_20_c, .func (.func 62) #[] #[]]) (fun E e w => ∃ (v_61 : List Int), ∃ (v_62_A : Option Addr), ∃ (v_63_c : Nat), Rs S0 w0 (.slice v_62_A v_61.length v_63_c) ([.own 25 1 (.slice v_62_A v_61.length v_63_c) v_61.length (v_61.flatMap c_u64)] ++ se E [0, 1, 2, 3, 4]) (v_61 = v_61o) e w) Tryd.func65 rfl rfl ?_ ?_
     ·replace hG := hy_64; refine sq ?_; refine rg ?_; refine ra [] f0 [] ?_; refine tN ?_; refine sq ?_; refine rg ?_; refine ra [] f0 [(5, .slice none 0 0)] ?_; refine tN ?_; obtain ⟨o_103, hG, hG_103⟩ := bind_some hG; refine jn (fun K E a w => ∃ (v_104 : List Int), ∃ (v_105_A : Option Addr), ∃ (v_106_c : Nat), Js S0 w0 22 ([(5, .slice v_105_A v_104.length v_106_c)] ++ K) ([.own 25 1 (.slice v_105_A v_104.length v_106_c) v_104.length (v_104.flatMap c_u64)] ++ se E [0, 1, 2, 3, 4]) (v_104 = o_103) a w) ?_ ?_
      ·refine sq ?_; refine rg ?_; refine ra [] f0 [(8, .slice v_20_A v_20.length v_20_c), (9, I ((v_20.length : Nat) : Int)), (10, I 0)] ?_; refine tN ?_; refine bk ?_; obtain ⟨e_91, hL, hG_91⟩ := bind_some hG; clear hG; obtain ⟨stp_91, hs_91, hL⟩ := iter_gen hL; refine lp (fun K E n_ a w => ∃ (v_87 : Int), ∃ (v_88 : List Int), ∃ (v_89_A : Option Addr), ∃ (v_90_c : Nat), Js S0 w0 22 ([(5, .slice v_89_A v_88.length v_90_c), (10, I v_87)] ++ K) ([.own 25 1 (.slice v_89_A v_88.length v_90_c) v_88.length (v_88.flatMap c_u64)] ++ se E [0, 1, 2, 3, 4]) (iter stp_91 n_ (v_87, v_88) = some e_91) a w) F ?_ ?_
       ·refine on 25 1 ?_; exact fun a w S hK hE => ⟨0, ([] : List Int), none, 0, S, hK.wk, hE.sel [0, 1, 2, 3, 4, 5], hL⟩
       ·clear hL; rintro n_91 a w ⟨v_87, v_88, v_89_A, v_90_c, hJ⟩; refine hJ.go fun hL => ?_
        clear hJ; obtain ⟨m_91, o_91, rfl, hG, hO1_91, hO2_91⟩ := iter_step hL; clear hL; rw [hs_91] at hG; refine sq ?_; refine rg ?_; refine ra [] f0 [(11, B (decide (v_87 < ((v_20.length : Nat) : Int))))] ?_; refine tN ?_; refine sq ?_; rcases ifB_cases hG with ⟨h_92, hG⟩ | ⟨h_92, hG⟩
        ·refine sb 11 (bt h_92) ?_; refine ct ?_; refine kS ?_; refine tN ?_; refine sq ?_; refine bk ?_; refine sq ?_; replace hG := bind_some hG; obtain ⟨v_93, hy_93, hG⟩ := hG; refine rg ?_; refine fx inf22 (gd' (RowC v_20_A v_20_c KEntry.cells tr v_20) 1) hy_93 fun b_94 o_95 hi_93 => ?_
         refine rn 2 [(0, 0, 0, 0), (0, 3, 0, 0)] (fc (hi_93 .i64) f0) [(13, .agg #[U v_93.Doc, I v_93.Stamp.Lo, I v_93.Stamp.Hi])] ?_; refine l1 ?_; refine nw 7 vp [U 0, I 0, I 0] 36 fun g_96 => ?_
         refine l1 ?_; refine sr 0 g_96 [(0, U v_93.Doc), (1, I v_93.Stamp.Lo), (2, I v_93.Stamp.Hi)] ?_; refine nl ?_; refine tN ?_; replace hG := bind_some hG; obtain ⟨v_97, hy_97, hG⟩ := hG; replace hG := bind_some hG; obtain ⟨v_99, hy_99, hG⟩ := hG; refine rg ?_; refine rn 3 [(2, 3, 0, 0)] f0 [(14, .slice v_89_A v_88.length v_90_c), (15, .func (.func 62) #[] #[]), (16, .agg #[U v_93.Doc, I v_93.Stamp.Lo, I v_93.Stamp.Hi])] ?_; refine l1 ?_; refine cl 17 (z_office_Leaf F v_93 _ hy_97) hT trivial ?_; refine l1 ?_; refine nw 18 (vs 1) [U v_97] 25 fun g_98 => ?_
         refine l1 ?_; refine ap 3 19 v_89_A v_90_c v_88 ([v_97] : List Int) inf32 (bA (f := c_u64) (ok := tr) (l := ([v_97] : List Int)) g_98 0 et.a) hy_99 one_u64 fun v_99_A v_99_c _ => ?_
         refine ra [] f0 [(5, .slice v_99_A v_99.length v_99_c)] ?_; refine hN ?_; refine tN ?_; refine rg ?_; refine ra [] f0 [(10, I (IntKind.i64.wrap (v_87 + 1)))] ?_; refine tN ?_; exact fun a w S hK hE => ⟨m_91, ⟨IntKind.i64.wrap (v_87 + 1), v_99, v_99_A, v_99_c, S, hK.wk, hE.sel [3, 4, 5, 6, 7, 8], hO1_91 _ (Option.some.inj hG).symm⟩, Nat.lt_succ_self _⟩
        ·refine sb 11 (bf h_92) ?_; refine cf ?_; refine kX ?_; refine tX ?_; refine tX ?_; have he_ := hO2_91 _ (Option.some.inj hG).symm; subst he_; replace hG := hG_91; refine hH ?_; refine tN ?_; exact fun a w S hK hE => ⟨v_88, v_89_A, v_90_c, S, hK.wk, hE.sel [0, 1, 2, 3, 4, 5], Option.some.inj hG⟩
      ·rintro a w ⟨v_104, v_105_A, v_106_c, hJ⟩; refine hJ.go fun ho_ => ?_
       clear hJ; subst ho_; replace hG := hG_103; refine sq ?_; refine rg ?_; refine ra [] f0 [(4, .slice v_105_A v_104.length v_106_c)] ?_; refine tN ?_; refine kR ?_; refine ri [] (.slice v_105_A v_104.length v_106_c) ?_; exact fun a w S hK hE => ⟨v_104, v_105_A, v_106_c, rfl, ⟨S, hE.sel [0, 1, 2, 3, 4, 5]⟩, Option.some.inj hG⟩
     ·rintro e w ⟨v_61, v_62_A, v_63_c, hJ⟩; refine hJ.go fun ho_ => ?_
      clear hJ; subst ho_; refine rn 1 [] f0 [(67, I p_2)] ?_; refine so (A := v_62_A) (c := v_63_c) 0 c_u64 tr v_61 tr_mv et ?_; refine l1 ?_; refine cn 68 (z_tree_Include F v_62_A v_63_c v_61 p_2 _ hy_65) hT (fun _ => (mr tr_mv m0)) ⟨gi 0, trivial⟩ ?_; rintro ⟨v_65_A, v_65_c, v_65⟩ hq_65; obtain rfl : v_65 = v_65o := hq_65.symm; refine ra [] f0 [(10, .slice v_65_A v_65.length v_65_c), (11, I v_66)] ?_; refine tN ?_; refine sq ?_; refine sq ?_; refine rg ?_; refine ra [] f0 [(72, B (!(v_66 == 0)))] ?_; refine tN ?_; rcases ifB_cases hG with ⟨h_107, hG⟩ | ⟨h_107, hG⟩
      ·refine sb 72 (nt h_107) ?_; refine cf ?_; refine kS ?_; refine tN ?_; refine sq ?_; replace hG := bind_some hG; obtain ⟨v_108, hy_108, hG⟩ := hG; refine fx inf22 (gd' (RowC p_0.Entries_A p_0.Entries_c KEntry.cells tr p_0.Entries) 3) hy_108 fun b_109 o_110 hi_108 => ?_
       refine hb [0, 1, 2, 3, 4, 6, 7] ?_; refine ht [0, 1, 2, 3, 4, 6, 7] [0, 1, 2, 3, 4, 5, 6, 7, 8] [(0, 5, 5, 0), (2, 1, 6, 1), (1, 0, 0, 0), (0, 3, 0, 0)] (fc (hi_108 .i64) f0) [(83, .agg #[I p_1.Office, I p_1.Size, U p_1.Root, I p_1.Sig.C, I p_1.Sig.S, I p_2, U v_108.Doc, I v_108.Stamp.Lo, I v_108.Stamp.Hi, .slice v_65_A v_65.length v_65_c])] ?_; refine ho [9] ⟨?_, trivial⟩; refine h1 ?_; refine sr 5 g_3 [(0, I p_1.Office), (1, I p_1.Size), (2, U p_1.Root), (3, I p_1.Sig.C), (4, I p_1.Sig.S), (5, I p_2), (6, U v_108.Doc), (7, I v_108.Stamp.Lo), (8, I v_108.Stamp.Hi), (9, .slice v_65_A v_65.length v_65_c)] ?_; refine hk [0, 1, 2, 3, 4, 6, 7] ?_; refine ht [0, 1, 2, 3, 4, 6, 7] [10] [] f0 [(7, I 0)] ?_; refine he ?_; refine tN ?_; refine kR ?_; obtain rfl := Option.some.inj hG; exact rtn [(5, 0, 10)] (⟨p_1, p_2, v_108, v_65_A, v_65_c, v_65⟩ : KReceiptL) rfl ⟨(((gd' (RowC v_65_A v_65_c c_u64 tr v_65) 1)).m fun _ _ h => ⟨h⟩), trivial⟩
      ·refine sb 72 (nf h_107) ?_; refine ct ?_; refine sq ?_; refine rg ?_; refine rn 2 [] f0 [(73, .agg #[I 0, I 0, U 0, I 0, I 0, I 0, U 0, I 0, I 0, .slice none 0 0]), (74, I v_66)] ?_; refine l1 ?_; refine sr 4 g_3 [(0, I 0), (1, I 0), (2, U 0), (3, I 0), (4, I 0), (5, I 0), (6, U 0), (7, I 0), (8, I 0), (9, .slice none 0 0)] ?_; refine ra [] f0 [(7, I v_66)] ?_; refine tN ?_; refine kR ?_; refine tR ?_; obtain rfl := Option.some.inj hG; exact rtn [(4, 0, 10)] (⟨(⟨0, 0, 0, (⟨0, 0⟩ : KSig)⟩ : KHead), 0, (⟨0, (⟨0, 0⟩ : KInterval)⟩ : KEntry), none, 0, ([] : List Int)⟩ : KReceiptL) rfl ⟨(((gn : Fd _ (RowC none 0 c_u64 tr ([] : List Int)))).m fun _ _ h => ⟨h⟩), trivial⟩
def G_office_Sign (F : Nat) (p_0 : KOffice) (p_1 : Int) (p_2 : Int) (p_3 : Int) : Option (KHead × Int) :=
 Option.bind (Option.bind (G_office_Valid F p_0) (fun v_3 =>
  ifB (v_3)
   (Option.bind (G_office_between F p_1 1 ((p_0.Entries.length : Nat) : Int)) (fun v_5 =>
   some (!v_5, p_3)))
   (some (true, p_3))) : Option ((Bool × Int))) (un2 fun (v_7 : Bool) (v_8 : Int) =>
  ifB (v_7)
   (some ((⟨0, 0, 0, (⟨0, 0⟩ : KSig)⟩ : KHead), 1))
   (Option.bind (G_office_root F p_0 p_1) (un2 fun v_10 v_11 =>
   ifB ((v_11 == 0))
    (Option.bind (G_office_message F (⟨p_0.ID, p_1, v_10, (⟨0, 0⟩ : KSig)⟩ : KHead)) (fun v_14 =>
    Option.bind (G_group_Sign F p_2 v_8 v_14) (un2 fun v_15 v_16 =>
    ifB ((v_16 == 0))
     (some ((⟨p_0.ID, p_1, v_10, v_15⟩ : KHead), 0))
     (some ((⟨0, 0, 0, (⟨0, 0⟩ : KSig)⟩ : KHead), v_16)))))
    (some ((⟨0, 0, 0, (⟨0, 0⟩ : KSig)⟩ : KHead), v_11)))))
set_option maxRecDepth 100000 in
set_option maxHeartbeats 16000000 in
theorem z_office_Sign (F : Nat) (p_0 : KOfficeL) (p_1 : Int) (p_2 : Int) (p_3 : Int) (r : KHead × Int) (hG : G_office_Sign F p_0.p p_1 p_2 p_3 = some r) :
  Cf Tryd.prog 14 [.agg #[I p_0.ID, .slice p_0.Entries_A p_0.Entries.length p_0.Entries_c], I p_1, I p_2, I p_3] [KOfficeL.ok p_0] (.tuple #[.agg #[I r.1.Office, I r.1.Size, U r.1.Root, I r.1.Sig.C, I r.1.Sig.S], I r.2]) := by
 unfold G_office_Sign at hG; refine fi Tryd.func14 rfl rfl (mc KOfficeL.mv m0) fun S0 w0 hT => ?_
 refine sq ?_; refine rg ?_; refine l1 ?_; refine nw 4 vp [I p_0.ID, .slice p_0.Entries_A p_0.Entries.length p_0.Entries_c] 24 fun g_1 => ?_
 refine l1 ?_; refine nw 8 vp [I 0, I 0, U 0, I 0, I 0] 29 fun g_2 => ?_
 refine ra [] f0 [] ?_; refine tN ?_; refine sq ?_; obtain ⟨o_6, hG, hG_6⟩ := bind_some hG; refine jn (fun K E a w => ∃ (v_7 : Bool), ∃ (v_8 : Int), Js S0 w0 56 ([(3, I v_8), (24, B v_7)] ++ K) ([.dat (RowC p_0.Entries_A p_0.Entries_c KEntry.cells tr p_0.Entries)] ++ se E [0, 1]) ((v_7, v_8) = o_6) a w) ?_ ?_
 ·replace hG := bind_some hG; obtain ⟨v_3, hy_3, hG⟩ := hG; replace hG := ifB_cases hG; rcases hG with ⟨h_4, hG⟩ | ⟨h_4, hG⟩
  ·replace hG := bind_some hG; obtain ⟨v_5, hy_5, hG⟩ := hG; refine rg ?_; refine rn 1 [(0, 2, 1, 0)] f0 [(14, .agg #[I p_0.ID, .slice p_0.Entries_A p_0.Entries.length p_0.Entries_c])] ?_; refine l1 ?_; refine cl 15 (z_office_Valid F p_0 _ hy_3) hT ⟨(gi 2).a, trivial⟩ ?_; refine rn 2 [] f0 [(17, B (!v_3))] ?_; refine sb 17 (nt h_4) ?_; refine rn 4 [(2, 1, 1, 1)] f0 [(18, I p_1), (21, I ((p_0.Entries.length : Nat) : Int))] ?_; refine l1 ?_; refine cl 22 (z_office_between F p_1 1 ((p_0.Entries.length : Nat) : Int) _ hy_5) hT trivial ?_; refine ra [] f0 [(24, B (!v_5))] ?_; refine tN ?_; refine fm (RowC p_0.Entries_A p_0.Entries_c KEntry.cells tr p_0.Entries) (gm (KOfficeL.ok p_0) 2 fun _ _ h => h.f_Entries) ?_; exact fun a w S hK hE => ⟨!v_5, p_3, S, hK.wk, hE.sel [0, 1, 2], Option.some.inj hG⟩
  ·refine rg ?_; refine rn 1 [(0, 2, 1, 0)] f0 [(14, .agg #[I p_0.ID, .slice p_0.Entries_A p_0.Entries.length p_0.Entries_c])] ?_; refine l1 ?_; refine cl 15 (z_office_Valid F p_0 _ hy_3) hT ⟨(gi 2).a, trivial⟩ ?_; refine rn 2 [] f0 [(17, B (!v_3))] ?_; refine sb 17 (nf h_4) ?_; refine ra [] f0 [(24, B true)] ?_; refine tN ?_; refine fm (RowC p_0.Entries_A p_0.Entries_c KEntry.cells tr p_0.Entries) (gm (KOfficeL.ok p_0) 2 fun _ _ h => h.f_Entries) ?_; exact fun a w S hK hE => ⟨true, p_3, S, hK.wk, hE.sel [0, 1, 2], Option.some.inj hG⟩
 ·rintro a w ⟨v_7, v_8, hJ⟩; refine hJ.go fun ho_ => ?_
  clear hJ; subst ho_; replace hG := hG_6; rcases ifB_cases hG with ⟨h_9, hG⟩ | ⟨h_9, hG⟩
  ·refine sb 24 (bt h_9) ?_; refine ct ?_; refine sq ?_; refine rg ?_; refine rn 1 [] f0 [(25, .agg #[I 0, I 0, U 0, I 0, I 0])] ?_; refine l1 ?_; refine sr 1 g_2 [(0, I 0), (1, I 0), (2, U 0), (3, I 0), (4, I 0)] ?_; refine ra [] f0 [(9, I 1)] ?_; refine tN ?_; refine kR ?_; refine tR ?_; obtain rfl := Option.some.inj hG; exact rt [(1, 0, 5)]
  ·refine sb 24 (bf h_9) ?_; refine cf ?_; refine kS ?_; refine tN ?_; refine sq ?_; replace hG := bind_some hG; obtain ⟨⟨v_10, v_11⟩, hy_10, hG⟩ := hG; refine rg ?_; refine rn 2 [(0, 2, 2, 0)] f0 [(27, .agg #[I p_0.ID, .slice p_0.Entries_A p_0.Entries.length p_0.Entries_c]), (28, I p_1)] ?_; refine l1 ?_; refine cl 29 (z_office_root F p_0 p_1 _ hy_10) hT ⟨(((gd' (RowC p_0.Entries_A p_0.Entries_c KEntry.cells tr p_0.Entries) 0)).m fun _ _ h => ⟨h⟩).a, trivial⟩ ?_; refine ra [] f0 [(10, U v_10), (11, I v_11)] ?_; refine tN ?_; refine sq ?_; refine sq ?_; refine rg ?_; refine ra [] f0 [(33, B (!(v_11 == 0)))] ?_; refine tN ?_; rcases ifB_cases hG with ⟨h_12, hG⟩ | ⟨h_12, hG⟩
   ·refine sb 33 (nt h_12) ?_; refine cf ?_; refine kS ?_; refine tN ?_; refine sq ?_; refine rg ?_; refine rn 5 [(1, 1, 2, 0)] f0 [(40, .agg #[I p_0.ID, I p_1, U v_10, I 0, I 0])] ?_; refine l1 ?_; refine nw 12 vp [I 0, I 0, U 0, I 0, I 0] 29 fun g_13 => ?_
    refine l1 ?_; refine sr 0 g_13 [(0, I p_0.ID), (1, I p_1), (2, U v_10), (3, I 0), (4, I 0)] ?_; refine nl ?_; refine tN ?_; refine sq ?_; replace hG := bind_some hG; obtain ⟨v_14o, hy_14, hG⟩ := hG; replace hG := bind_some hG; obtain ⟨⟨v_15, v_16⟩, hy_15, hG⟩ := hG; refine rg ?_; refine rn 3 [(2, 5, 0, 0)] f0 [(42, I p_2), (43, I v_8), (44, .agg #[I p_0.ID, I p_1, U v_10, I 0, I 0])] ?_; refine l1 ?_; refine cn 45 (z_office_message F (⟨p_0.ID, p_1, v_10, (⟨0, 0⟩ : KSig)⟩ : KHead) _ hy_14) hT (fun _ => (mr tr_mv m0)) trivial ?_; rintro ⟨v_14_A, v_14_c, v_14⟩ hq_14; obtain rfl : v_14 = v_14o := hq_14.symm; refine l1 ?_; refine cl 46 (z_group_Sign F p_2 v_8 v_14_A v_14_c v_14 _ hy_15) hT ⟨ga 0, trivial⟩ ?_; refine rn 3 [] f0 [(47, .agg #[I v_15.C, I v_15.S]), (48, I v_16)] ?_; refine l1 ?_; refine nw 13 vp [I 0, I 0] 27 fun g_17 => ?_
    refine l1 ?_; refine sr 0 g_17 [(0, I v_15.C), (1, I v_15.S)] ?_; refine ra [] f0 [(11, I v_16)] ?_; refine tN ?_; refine sq ?_; refine sq ?_; refine rg ?_; refine ra [] f0 [(50, B (!(v_16 == 0)))] ?_; refine tN ?_; rcases ifB_cases hG with ⟨h_18, hG⟩ | ⟨h_18, hG⟩
    ·refine sb 50 (nt h_18) ?_; refine cf ?_; refine kS ?_; refine tN ?_; refine sq ?_; refine rg ?_; refine rn 2 [(0, 2, 0, 0)] f0 [(53, .agg #[I v_15.C, I v_15.S]), (54, Pt g_13 3)] ?_; refine l1 ?_; refine sr 2 g_13 [(3, I v_15.C), (4, I v_15.S)] ?_; refine nl ?_; refine tN ?_; refine sq ?_; refine rg ?_; refine rn 1 [(0, 5, 2, 0)] f0 [(55, .agg #[I p_0.ID, I p_1, U v_10, I v_15.C, I v_15.S])] ?_; refine l1 ?_; refine sr 4 g_2 [(0, I p_0.ID), (1, I p_1), (2, U v_10), (3, I v_15.C), (4, I v_15.S)] ?_; refine ra [] f0 [(9, I 0)] ?_; refine tN ?_; refine kR ?_; obtain rfl := Option.some.inj hG; exact rt [(4, 0, 5)]
    ·refine sb 50 (nf h_18) ?_; refine ct ?_; refine sq ?_; refine rg ?_; refine rn 2 [] f0 [(51, .agg #[I 0, I 0, U 0, I 0, I 0]), (52, I v_16)] ?_; refine l1 ?_; refine sr 4 g_2 [(0, I 0), (1, I 0), (2, U 0), (3, I 0), (4, I 0)] ?_; refine ra [] f0 [(9, I v_16)] ?_; refine tN ?_; refine kR ?_; refine tR ?_; obtain rfl := Option.some.inj hG; exact rt [(4, 0, 5)]
   ·refine sb 33 (nf h_12) ?_; refine ct ?_; refine sq ?_; refine rg ?_; refine rn 2 [] f0 [(34, .agg #[I 0, I 0, U 0, I 0, I 0]), (35, I v_11)] ?_; refine l1 ?_; refine sr 1 g_2 [(0, I 0), (1, I 0), (2, U 0), (3, I 0), (4, I 0)] ?_; refine ra [] f0 [(9, I v_11)] ?_; refine tN ?_; refine kR ?_; refine tR ?_; obtain rfl := Option.some.inj hG; exact rt [(1, 0, 5)]
end Go.Proofs.YtiijddjfiojfaaaDoor
