/-
  The walk of tree.Extended.
-/
import Derived.Test.YtijnjgjpmgmifaaDoorInsK
import Derived.Test.YtijnjgjpmgmifaaDoorEx
namespace Go.Proofs.YtijnjgjpmgmifaaDoor
open Go.RowKit
theorem wrapsI63 (n : Int) (h₀ : 0 ≤ n) (h₁ : n < 2 ^ 63) : IntKind.i64.wrap n = n := IntWalk.i64_in _ (by omega)
theorem pow_bits0 : ∀ i < 65, ∀ j < 64, 1 ≤ 64 * i + j → (((64 * i + j) &&& (64 * i + j - 1) = 0) ↔ 64 * i + j = 2 ^ Nat.log2 (64 * i + j)) := by decide +kernel
theorem pow_bits (m : Nat) (h : m < 4097) (h1 : 1 ≤ m) : (m &&& (m - 1) = 0) ↔ m = 2 ^ Nat.log2 m := by
  have := pow_bits0 (m / 64) (by omega) (m % 64) (by omega)
  rw [Nat.div_add_mod] at this
  exact this h1
theorem isPow_iff {m : Nat} (h1 : 1 ≤ m) (h : m ≤ 4096) : isPow m ↔ m &&& (m - 1) = 0 := by
  rw [pow_bits m (by omega) h1]
  constructor
  · rintro ⟨e, rfl⟩
    rw [Nat.log2_two_pow]
  · intro h
    exact ⟨_, h⟩
theorem and_pred {m : Nat} (h1 : 1 ≤ m) (h : m ≤ 4096) : bits .and .i64 (m : Int) ((m : Int) - 1) = ((m &&& (m - 1) : Nat) : Int) := by
  have := (bits_nat .i64 63 (by decide) wrapsI63 m (m - 1) (by omega) (by omega)).1
  rw [← this]
  congr 1
  omega
theorem OwnK.blk_lt {k : IntKind} {e : TypeId} {w : World} {base n c : Nat} {A : Option Addr} {l : List Int} (h : OwnK k e w base (.slice A n c) l) : ∀ a, A = some a → a.block < w.heap.size := by
  rintro a rfl
  rcases h.2 with ⟨hv, _⟩ | ⟨g, cap, cur, hv, hg, hh, _⟩
  · injection hv with e1; cases e1
  · injection hv with e1
    injection e1 with e1
    subst e1
    exact (Array.getElem?_eq_some_iff.1 hh).1
def frE (s : Int × Int) (p : Int) : Int × Int := (pairF p s.1, pairF p s.2)
def flE (s : Int × Int) (p : Int) : Int × Int := (s.1, pairF s.2 p)
/-- tree.Extended -/
def growS (a b m n : Int) (path : List Int) : Bool := if n < 1 ∨ 4096 < n ∨ m < 1 ∨ n < m then false else decide (growO pairF a m.toNat n.toNat true path = some (a, b))
set_option maxHeartbeats 4000000 in
theorem ext_pow (a b : Int) (mm nn : Nat) (A : Option Addr) (c : Nat) (path : List Int) (w : World) (hp : path.length ≤ 1000) (hm1 : 1 ≤ mm) (hmn : mm < nn) (hn : nn ≤ 4096) (hpow : isPow mm) (h : KS .u64 w A path) :
    Calls Tryd.prog 22 #[.int .u64 a, .int .u64 b, .int .i64 (mm : Int), .int .i64 (nn : Int), .slice A path.length c] w fun e w' => e = .returned (.bool (decide (growO pairF a mm nn true path = some (a, b)))) ∧ Below w.heap.size w w' := by
  have q1 : decide ((nn : Int) < 1) = false := decide_eq_false (by omega)
  have q2 : decide (4096 < (nn : Int)) = false := decide_eq_false (by omega)
  have q3 : decide ((mm : Int) < 1) = false := decide_eq_false (by omega)
  have q4 : decide ((nn : Int) < mm) = false := decide_eq_false (by omega)
  have q5 : decide (nn < mm) = false := decide_eq_false (by omega)
  have q6 : ((mm : Int) == (nn : Int)) = false := by simp; omega
  have hb0 := and_pred hm1 (by omega)
  rw [(isPow_iff hm1 (by omega)).1 hpow] at hb0
  rw [grow_pow nn a mm path hpow hmn, grow_walk nn a a mm path hm1 hmn]
  obtain ⟨res, hres⟩ : ∃ r, wlk frE flE (stripT (mm - 1) (nn - 1)).1 (stripT (mm - 1) (nn - 1)).2 (a, a) path = r := ⟨_, rfl⟩
  have hres2 : wlk (fun s p => (pairF p s.1, pairF p s.2)) (fun s p => (s.1, pairF s.2 p)) (stripT (mm - 1) (nn - 1)).1 (stripT (mm - 1) (nn - 1)).2 (a, a) path = res := hres
  rw [hres2]
  have HRES := hide hres
  have K0 := hide h
  have CL := hide fun W (s : KS .u64 W A path) => cloneK_any A c path W (by omega) s
  have e1 := hide (show ((mm - 1 : Nat) : Int) = (mm : Int) - 1 by omega)
  have e2 := hide (show ((nn - 1 : Nat) : Int) = (nn : Int) - 1 by omega)
  have p1 : (0 : Int) ≤ (mm : Int) - 1 := by omega
  have p2 : (mm : Int) - 1 ≤ 5000 := by omega
  have p3 : (0 : Int) ≤ (nn : Int) - 1 := by omega
  have p4 : (nn : Int) - 1 ≤ 5000 := by omega
  have p5 : ((path.length : Int) + 1 == 0) = false := by simp; omega
  clear hpow h hres hres2
  go_enter Tryd.func22, Tryd.ntmps22
  go_wp2
  go_step3
  go_upto_region 9 with (first
    | (go_at_call 40; with_reducible refine (CL.out _ K0.out).mono ?_; rintro e w2 ⟨v2, rfl, ho, hb⟩; obtain ⟨A2, c2, rfl, hl2, hm2, -⟩ := OwnK.form ho; have BX := hide hb; have HO := hide ho; have hs2 := hb.size; have HLT := hide ho.blk_lt; clear ho hb)
    | (go_at_call 39; with_reducible refine (insertK_any A2 c2 path a w2.heap.size w.heap.size _ (HO.out.below ((Below.refl _ _).alloc (Nat.le_refl _) _)) (by simp; omega) (by omega) (Blk.new _ _ _) ?_).mono ?_))
  · rintro x rfl
    have := HLT.out x rfl
    omega
  rintro e w3 ⟨v3, rfl, ho3, hb3⟩
  obtain ⟨A3, pcap, rfl, hl3, hm3, hk3⟩ := ho3.form
  obtain ⟨pb, po, rfl, -, -⟩ := hk3.at_ (i := 0) (by simp)
  have hpc : path.length + 1 ≤ pcap := hl3
  have BX := hide ((BX.out.alloc hs2 (.cells #[.int .u64 a] 23)).trans hb3)
  have K := hide hk3
  have WW := hide (show W2 (w3.alloc (.cells #[.int .u64 ((mm : Int) - 1), .int .u64 ((nn : Int) - 1)] 55)) w3.heap.size (mm - 1) (nn - 1) by unfold W2; rw [e1.out, e2.out]; exact Blk.new w3 55 #[.int .u64 ((mm : Int) - 1), .int .u64 ((nn : Int) - 1)])
  have BW := hide ((Below.refl w3.heap.size w3).alloc (Nat.le_refl _) (.cells #[.int .u64 ((mm : Int) - 1), .int .u64 ((nn : Int) - 1)] 55))
  clear ho3 hb3 hk3 HO HLT K0 CL hl3
  go_wp2_with fail
  go_loopw [] (fun wr => ∃ a' b' : Nat, W2 wr w3.heap.size a' b' ∧ a' < 10000 ∧ stripT a' b' = stripT (mm - 1) (nn - 1) ∧ Below w3.heap.size w3 wr) (fun wr => cellN wr w3.heap.size)
  case atStart => exact ⟨mm - 1, nn - 1, WW.out, by omega, rfl, BW.out⟩
  case round =>
    clear WW BW
    obtain ⟨a', b', hw, ha', hst, hb⟩ := hrel
    have c0' : wr.cell? ⟨w3.heap.size, 0, none⟩ = some (.int .u64 a') := hw.cell 0
    have c1' : wr.cell? ⟨w3.heap.size, 1, none⟩ = some (.int .u64 b') := hw.cell 1
    have hbit := and1 a' ha'
    have HW := hide hw
    have HB := hide hb
    clear hw hb
    by_cases ho : a' % 2 = 1
    · rw [ho] at hbit
      have HS2 := hide (hst ▸ (stripT_odd (b := b') ho).symm : stripT (a' / 2) (b' / 2) = stripT (mm - 1) (nn - 1))
      have HU := hide fun W (hh : W2 W w3.heap.size a' b') => up_any w3.heap.size a' b' false W hh ha'
      have hpos : a' / 2 < a' := by omega
      clear hst ho
      go_wp2_with (go_at_call 37; refine (HU.out _ HW.out).mono ?_; rintro e w5 ⟨⟨_, rfl⟩, hw5, hg5⟩; have HB5 := hide (HB.out.grown hg5 HB.out.size (fun g hg => by injection hg with hg; omega)); have HW5 := hide hw5; clear hw5 hg5)
      go_roundw
      case rel => exact ⟨a' / 2, b' / 2, HW5.out, by omega, HS2.out, HB5.out⟩
      case measure => rw [cellN_eq HW.out, cellN_eq HW5.out]; exact hpos
    · rw [show a' % 2 = 0 by omega] at hbit
      rw [stripT_even (by omega)] at hst
      rw [← hst] at HRES
      have HRES := hide (show wlk frE flE a' b' (a, a) path = res from HRES.out)
      rename World => wo
      have hw1 : IntKind.i64.wrap 1 = 1 := IntWalk.i64_in _ (by omega)
      have hw3 : (1 : Int) ≤ (path.length : Int) + 1 := by omega
      rcases Decidable.em (pcap = 1) with hp1 | hp1
      all_goals
        obtain ⟨pb', po', hA, hbl, hc⟩ := (K.out.then_ HB.out).at_ (i := 0) (by simp)
        injection hA with hA
        injection hA with hA1 hA2
        subst hA1 hA2
        have c2' := hc 0 (by simp)
        rw [Nat.add_zero, List.getElem_cons_zero] at c2'
        have HC := hide hc
        clear hst ho hc
        go_wp2_with fail
        have n0 := fun x : Fut wo.heap.size wo => (x.cell pb po hbl).trans c2'
        refine wp_region_fut wo.heap.size (by kernel_rfl) (by kernel_rfl) ?_
        repeat (go_big_quiet_step ((first | fail)))
        refine wpQuiet_nil ?_
        intro w10 hq'; have hb10 := Fut.of hq'; clear hq'
        go_wp2_with fail
        go_step3
        go_wp2_with fail
        go_loopw [12, 13, 15, 80] (fun u12 u13 _ i wr => ∃ (k a2 b2 : Nat) (xv yv : Int), k ≤ path.length ∧ i = .int .i64 k ∧ u12 = .int .u64 xv ∧ u13 = .int .u64 yv ∧ W2 wr w3.heap.size a2 b2 ∧ a2 < 10000 ∧ wlk frE flE a2 b2 (xv, yv) (path.drop k) = res ∧ Below w3.heap.size w3 wr) (fun _ _ _ i _ => path.length - (intOf i).toNat)
        case atStart => exact ⟨0, a', b', a, a, Nat.zero_le _, rfl, rfl, rfl, HW.out.below hb10 HW.out.lt, ha', HRES.out, HB.out.trans (hb10.mono HB.out.size)⟩
        case round =>
          clear HW HB HRES c0' c1' c2' hbit HC
          obtain ⟨k, a2, b2, xv, yv, hk, rfl, rfl, rfl, hw2, ha2, hwlk, hb2⟩ := hrel
          have c0' : wr.cell? ⟨w3.heap.size, 0, none⟩ = some (.int .u64 a2) := hw2.cell 0
          have c1' : wr.cell? ⟨w3.heap.size, 1, none⟩ = some (.int .u64 b2) := hw2.cell 1
          have HB := hide hb2
          by_cases hlt : k < path.length
          · first
            | (exfalso; omega)
            | (have hc1 : ¬ pcap = 1 := by omega
               obtain ⟨pb', po', hA, hbl2, hc⟩ := (K.out.then_ HB.out).at_ (i := k + 1) (by simp; omega)
               injection hA with hA
               injection hA with hA1 hA2
               subst hA1 hA2
               have c2' := hc (k + 1) (by simp; omega)
               rw [List.getElem_cons_succ, show po + (k + 1) = po + 1 + k by omega] at c2'
               rw [List.drop_eq_getElem_cons hlt] at hwlk
               obtain ⟨p, hpp⟩ : ∃ p, p = path[k] := ⟨_, rfl⟩
               rw [← hpp] at c2' hwlk
               have HW := hide hw2
               clear hc hpp hb2 hw2
               by_cases hz : b2 = 0
               · subst hz
                 rw [wlk_end] at hwlk
                 subst hwlk
                 go_wp2
                 repeat (rw [Exit.noGoto_ret])
                 go_ret
                 exact ⟨rfl, BX.out.trans (HB.out.mono BX.out.size)⟩
               · have qz : ((b2 : Int) == 0) = false := by simp; omega
                 rw [wlk_cons, if_neg hz] at hwlk
                 have HR := hide fun W (hh : W2 W w3.heap.size a2 b2) => right_any w3.heap.size a2 b2 W hh ha2
                 cases hr : isR a2 b2
                 · rw [hr] at HR hwlk
                   rw [if_neg (by simp)] at hwlk
                   have HL := hide hwlk
                   have HU := hide fun W (hh : W2 W w3.heap.size a2 b2) => up_any w3.heap.size a2 b2 false W hh ha2
                   clear hwlk hr
                   go_wp2_with (first
                                   | (go_at_call 36; refine (HR.out _ HW.out).mono ?_; rintro e w23 ⟨rfl, hb⟩; have HW := hide (HW.out.below hb HW.out.lt); have HB := hide (HB.out.trans (hb.mono HB.out.size)); clear hb)
                                   | (go_at_call 25; refine (pair_any _ _ _).mono ?_; rintro e w24 ⟨rfl, hb⟩; have HW := hide (HW.out.below hb HW.out.lt); have HB := hide (HB.out.trans (hb.mono HB.out.size)); clear hb)
                                   | (go_at_call 37; refine (HU.out _ HW.out).mono ?_; rintro e w25 ⟨⟨_, rfl⟩, hw5, hg5⟩; have HB5 := hide (HB.out.grown hg5 HB.out.size (fun g hg => by injection hg with hg; omega)); have HW5 := hide hw5; clear hw5 hg5))
                   go_roundw
                   case rel => exact ⟨k + 1, a2 / 2, b2 / 2, xv, pairF yv p, by omega, by go_num, rfl, rfl, HW5.out, by omega, HL.out, HB5.out⟩
                   case measure => simp [intOf]; omega
                 · rw [hr] at HR hwlk
                   rw [if_pos rfl] at hwlk
                   have HL := hide hwlk
                   have HU := hide fun W (hh : W2 W w3.heap.size a2 b2) => up_any w3.heap.size a2 b2 true W hh ha2
                   have hle := upT_le a2 a2 b2 (Nat.le_refl _)
                   clear hwlk hr
                   go_wp2_with (first
                                   | (go_at_call 36; refine (HR.out _ HW.out).mono ?_; rintro e w23 ⟨rfl, hb⟩; have HW := hide (HW.out.below hb HW.out.lt); have HB := hide (HB.out.trans (hb.mono HB.out.size)); clear hb)
                                   | (go_at_call 25; refine (pair_any _ _ _).mono ?_; rintro e w24 ⟨rfl, hb⟩; have HW := hide (HW.out.below hb HW.out.lt); have HB := hide (HB.out.trans (hb.mono HB.out.size)); clear hb)
                                   | (go_at_call 37; refine (HU.out _ HW.out).mono ?_; rintro e w25 ⟨⟨_, rfl⟩, hw5, hg5⟩; have HB5 := hide (HB.out.grown hg5 HB.out.size (fun g hg => by injection hg with hg; omega)); have HW5 := hide hw5; clear hw5 hg5))
                   go_roundw
                   case rel => exact ⟨k + 1, (upT a2 b2).1, (upT a2 b2).2, pairF p xv, pairF p yv, by omega, by go_num, rfl, rfl, HW5.out, by omega, HL.out, HB5.out⟩
                   case measure => simp [intOf]; omega)
          · have hd : path.drop k = [] := List.drop_eq_nil_of_le (by omega)
            rw [hd] at hwlk
            clear hw2 hb2
            by_cases hz : b2 = 0
            · subst hz
              rw [wlk_nil0] at hwlk
              subst hwlk
              have HE := hide (show decide (some (xv, yv) = some (a, b)) = ((xv == a) && (yv == b)) by rw [Bool.eq_iff_iff]; simp)
              have HF := hide (BX.out.trans (HB.out.mono BX.out.size))
              cases hq : (xv == a)
              · go_wp2
                repeat (rw [Exit.noGoto_ret])
                go_ret
                exact ⟨by rw [HE.out, hq]; rfl, HF.out⟩
              · go_wp2
                repeat (rw [Exit.noGoto_ret])
                go_ret
                exact ⟨by rw [HE.out, hq]; rfl, HF.out⟩
            · have qz : ((b2 : Int) == 0) = false := by simp; omega
              rw [wlk_nil hz] at hwlk
              subst hwlk
              have HF := hide (BX.out.trans (HB.out.mono BX.out.size))
              go_wp2
              repeat (rw [Exit.noGoto_ret])
              go_ret
              exact ⟨rfl, HF.out⟩
end Go.Proofs.YtijnjgjpmgmifaaDoor
