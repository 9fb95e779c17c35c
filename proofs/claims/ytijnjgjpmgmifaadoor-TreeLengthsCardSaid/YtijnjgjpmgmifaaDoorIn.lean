/-
  The walk of tree.Included.
-/
import Derived.Test.YtijnjgjpmgmifaaDoorWk
namespace Go.Proofs.YtijnjgjpmgmifaaDoor
open Go.RowKit
theorem upT_le : ∀ (n a b : Nat), a ≤ n → (upT a b).1 ≤ a
  | 0, a, b, h => by
    obtain rfl : a = 0 := by omega
    rw [upT, dif_neg (by omega)]
    exact Nat.le_refl _
  | n + 1, a, b, h => by
    by_cases hc : a % 2 = 0 ∧ a ≠ 0
    · rw [upT_even hc.1 hc.2]
      exact Nat.le_trans (upT_le n (a / 2) (b / 2) (by omega)) (by omega)
    · rw [upT, dif_neg hc]
      dsimp only
      omega
/-- slices of before read on behind a turn of a block made since -/
theorem ks_keep {k : IntKind} {w0 w' : World} {A : Option Addr} {l : List Int} (h : KS k w0 A l) (hb : Below w0.heap.size w0 w') : KS k w' A l := h.then_ hb
def frI (s p : Int) : Int := pairF p s
def flI (s p : Int) : Int := pairF s p
/-- tree.Included -/
def inclS (root leaf i n : Int) (path : List Int) : Bool := if n < 1 ∨ 4096 < n ∨ i < 0 ∨ n ≤ i then false else decide (wlk frI flI i.toNat (n.toNat - 1) (leafF leaf) path = some root)
set_option maxHeartbeats 4000000 in
theorem included_any (root leaf i n : Int) (A : Option Addr) (c : Nat) (path : List Int) (w : World) (hp : path.length ≤ 9223372036854775807) (h : KS .u64 w A path) :
    Calls Tryd.prog 20 #[.int .u64 root, .int .u64 leaf, .int .i64 i, .int .i64 n, .slice A path.length c] w fun e w' => e = .returned (.bool (inclS root leaf i n path)) ∧ Below w.heap.size w w' := by
  by_cases hbad : n < 1 ∨ 4096 < n ∨ i < 0 ∨ n ≤ i
  · have hr : inclS root leaf i n path = false := if_pos hbad
    rw [hr]
    have hcase : decide (n < 1) = true ∨ decide (n < 1) = false ∧ decide (4096 < n) = true ∨ decide (n < 1) = false ∧ decide (4096 < n) = false ∧ decide (i < 0) = true ∨ decide (n < 1) = false ∧ decide (4096 < n) = false ∧ decide (i < 0) = false ∧ decide (n ≤ i) = true := by
      simp only [decide_eq_true_eq, decide_eq_false_iff_not]; omega
    clear hr hbad
    rcases hcase with q1 | ⟨q1, q2⟩ | ⟨q1, q2, q3⟩ | ⟨q1, q2, q3, q4⟩
    all_goals
      go_enter Tryd.func20, Tryd.ntmps20
      go_wp2
      go_ret
      exact ⟨rfl, Below.refl _ _⟩
  · obtain ⟨j, rfl⟩ : ∃ j : Nat, i = j := ⟨i.toNat, by omega⟩
    obtain ⟨m, rfl⟩ : ∃ m : Nat, n = m := ⟨n.toNat, by omega⟩
    have hr : inclS root leaf j m path = decide (wlk frI flI j (m - 1) (leafF leaf) path = some root) := by unfold inclS; rw [if_neg hbad]; rfl
    have q1 : decide ((m : Int) < 1) = false := decide_eq_false (by omega)
    have q2 : decide (4096 < (m : Int)) = false := decide_eq_false (by omega)
    have q3 : decide ((j : Int) < 0) = false := decide_eq_false (by omega)
    have q4 : decide ((m : Int) ≤ j) = false := decide_eq_false (by omega)
    have q5 : decide (m ≤ j) = false := decide_eq_false (by omega)
    have hj : j < 10000 := by omega
    have hm : m ≤ 4096 := by omega
    have hm1 : 1 ≤ m := by omega
    rw [hr]
    obtain ⟨res, hres⟩ : ∃ r, r = wlk frI flI j (m - 1) (leafF leaf) path := ⟨_, rfl⟩
    rw [← hres]
    have HRES := hide hres
    have K := hide h
    have HK0 := hide h
    have BB := hide (Below.refl w.heap.size w)
    have e1 : ((m - 1 : Nat) : Int) = (m : Int) - 1 := by omega
    have E1 := hide e1
    clear hr hbad hres h e1
    go_enter Tryd.func20, Tryd.ntmps20
    go_wp2_with (go_at_call 13; refine (leaf_any _ _).mono ?_; rintro e w2 ⟨rfl, hb⟩; have BB := hide (((Below.refl w.heap.size w).alloc (Nat.le_refl _) (.cells #[.int .u64 (j : Int), .int .u64 ((m : Int) - 1)] 55)).trans (hb.mono (by simp))); have K := hide ((K.out.alloc (.cells #[.int .u64 (j : Int), .int .u64 ((m : Int) - 1)] 55)).then_ hb); have WW := hide (show W2 w2 w.heap.size j (m - 1) by unfold W2; rw [E1.out]; exact (Blk.new w 55 #[.int .u64 (j : Int), .int .u64 ((m : Int) - 1)]).below hb (by simp)); clear hb)
    go_loopw [12, 14, 41] (fun d _ i wr => ∃ (k a b : Nat) (dv : Int), k ≤ path.length ∧ i = .int .i64 k ∧ d = .int .u64 dv ∧ W2 wr w.heap.size a b ∧ a < 10000 ∧ wlk frI flI a b dv (path.drop k) = res ∧ KS .u64 wr A path ∧ Below w.heap.size w wr) (fun _ _ i _ => path.length - (intOf i).toNat)
    case atStart => exact ⟨0, j, m - 1, leafF leaf, Nat.zero_le _, rfl, rfl, WW.out, hj, by rw [HRES.out]; rfl, K.out, BB.out⟩
    case round =>
      clear K BB WW
      obtain ⟨k, a, b, dv, hk, rfl, rfl, hw, ha, hwlk, hks, hb⟩ := hrel
      have c0 : wr.cell? ⟨w.heap.size, 0, none⟩ = some (.int .u64 a) := hw.cell 0
      have c1 : wr.cell? ⟨w.heap.size, 1, none⟩ = some (.int .u64 b) := hw.cell 1
      have hlw := hw.lt
      by_cases hlt : k < path.length
      · obtain ⟨b', o, rfl, hbl, hc⟩ := hks.at_ hlt
        have c2 := hc k hlt
        rw [List.drop_eq_getElem_cons hlt] at hwlk
        obtain ⟨p, hpp⟩ : ∃ p, p = path[k] := ⟨_, rfl⟩
        rw [← hpp] at c2 hwlk
        clear hc hpp
        by_cases hz : b = 0
        · subst hz
          rw [wlk_end] at hwlk
          subst hwlk
          go_wp2
          go_ret
          exact ⟨rfl, hb⟩
        · have qz : ((b : Int) == 0) = false := by simp; omega
          rw [wlk_cons, if_neg hz] at hwlk
          have HW := hide hw
          have HB := hide hb
          have HK := hide hks
          have HR := hide fun W (hh : W2 W w.heap.size a b) => right_any w.heap.size a b W hh ha
          clear hw hb hks
          cases hr : isR a b
          · rw [hr] at HR hwlk
            rw [if_neg (by simp)] at hwlk
            have HL := hide hwlk
            have HU := hide fun W (hh : W2 W w.heap.size a b) => up_any w.heap.size a b false W hh ha
            clear hwlk hr
            go_wp2_with (first
              | (go_at_call 36; refine (HR.out _ HW.out).mono ?_; rintro e w3 ⟨rfl, hb⟩; have HW := hide (HW.out.below hb HW.out.lt); have HB := hide (HB.out.trans (hb.mono HB.out.size)); have HK := hide (HK.out.then_ hb); clear hb)
              | (go_at_call 25; refine (pair_any _ _ _).mono ?_; rintro e w4 ⟨rfl, hb⟩; have HW := hide (HW.out.below hb HW.out.lt); have HB := hide (HB.out.trans (hb.mono HB.out.size)); have HK := hide (HK.out.then_ hb); clear hb)
              | (go_at_call 37; refine (HU.out _ HW.out).mono ?_; rintro e w5 ⟨⟨_, rfl⟩, hw5, hg5⟩; have HB5 := hide (HB.out.grown hg5 HB.out.size (fun g hg => by injection hg with hg; omega)); have HK5 := hide (HK0.out.then_ HB5.out); have HW5 := hide hw5; clear hw5 hg5))
            go_roundw
            case rel => exact ⟨k + 1, a / 2, b / 2, pairF dv p, by omega, by go_num, rfl, HW5.out, by omega, HL.out, HK5.out, HB5.out⟩
            case measure => simp [intOf]; omega
          · rw [hr] at HR hwlk
            rw [if_pos rfl] at hwlk
            have HL := hide hwlk
            have HU := hide fun W (hh : W2 W w.heap.size a b) => up_any w.heap.size a b true W hh ha
            have hle := upT_le a a b (Nat.le_refl _)
            clear hwlk hr
            go_wp2_with (first
              | (go_at_call 36; refine (HR.out _ HW.out).mono ?_; rintro e w3 ⟨rfl, hb⟩; have HW := hide (HW.out.below hb HW.out.lt); have HB := hide (HB.out.trans (hb.mono HB.out.size)); have HK := hide (HK.out.then_ hb); clear hb)
              | (go_at_call 25; refine (pair_any _ _ _).mono ?_; rintro e w4 ⟨rfl, hb⟩; have HW := hide (HW.out.below hb HW.out.lt); have HB := hide (HB.out.trans (hb.mono HB.out.size)); have HK := hide (HK.out.then_ hb); clear hb)
              | (go_at_call 37; refine (HU.out _ HW.out).mono ?_; rintro e w5 ⟨⟨_, rfl⟩, hw5, hg5⟩; have HB5 := hide (HB.out.grown hg5 HB.out.size (fun g hg => by injection hg with hg; omega)); have HK5 := hide (HK0.out.then_ HB5.out); have HW5 := hide hw5; clear hw5 hg5))
            go_roundw
            case rel => exact ⟨k + 1, (upT a b).1, (upT a b).2, pairF p dv, by omega, by go_num, rfl, HW5.out, by omega, HL.out, HK5.out, HB5.out⟩
            case measure => simp [intOf]; omega
      · have hd : path.drop k = [] := List.drop_eq_nil_of_le (by omega)
        rw [hd] at hwlk
        by_cases hz : b = 0
        · subst hz
          rw [wlk_nil0] at hwlk
          subst hwlk
          have hre : decide (some dv = some root) = (dv == root) := by rw [Bool.eq_iff_iff]; simp
          have HE := hide hre
          clear hre
          go_wp2
          go_ret
          exact ⟨by rw [HE.out]; rfl, hb⟩
        · have qz : ((b : Int) == 0) = false := by simp; omega
          rw [wlk_nil hz] at hwlk
          subst hwlk
          go_wp2
          go_ret
          exact ⟨rfl, hb⟩
end Go.Proofs.YtijnjgjpmgmifaaDoor
