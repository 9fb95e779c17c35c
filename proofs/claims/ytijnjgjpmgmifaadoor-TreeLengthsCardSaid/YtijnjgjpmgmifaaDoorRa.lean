/-
  The walks of the reference implementation of layer 24: Half, root, Root; Pair and Same of layer 3.
-/
import Derived.Test.YtijnjgjpmgmifaaDoorIc
import Derived.Test.YtijnjgjpmgmifaaDoorDr
namespace Go.Proofs.YtijnjgjpmgmifaaDoor
open Go.RowKit
set_option maxHeartbeats 1000000 in
theorem rPair_any (a b : Int) (w : World) : Calls Tryd.prog 46 #[.int .u64 a, .int .u64 b] w fun e w' => e = .returned (.int .u64 (pairF a b)) ∧ Below w.heap.size w w' := by
  obtain ⟨i0, hi, hz0, hz1, hz2⟩ := info_parts infoB
  have HS := hide fun A c l W hn s => rSum_any A c l W hn s
  have O1 := hide (show OwnK .u8 5 (w.alloc (.cells #[.int .u8 1] 5)) w.heap.size (.slice (some ⟨w.heap.size, 0, none⟩) 1 1) [1] from ⟨rfl, .inr ⟨w.heap.size, 1, #[.int .u8 1], rfl, Nat.le_refl _, heap_alloc_new w _, Nat.le_refl _, by simp [maxLen], rfl, rfl⟩⟩)
  have B1 := hide ((Below.refl w.heap.size w).alloc (Nat.le_refl _) (.cells #[.int .u8 1] 5))
  go_enter Tryd.func46, Tryd.ntmps46
  go_upto_region 2 with (first
    | (go_at_call 47; refine (eight_any a _).mono ?_; rintro e w2 ⟨v2, rfl, ho2, hb2⟩; have O2 := hide (O1.out.below hb2); have B2 := hide (B1.out.trans (hb2.mono B1.out.size)); obtain ⟨A2, c2, rfl, hl2, hm2, hk2⟩ := ho2.form; have K2 := hide hk2; clear ho2 hb2 hk2)
    | (at_builtin; refine wpList_append_rd _ rfl _ _ 66 rfl w.heap.size 5 i0 _ 1 1 Tryd.underlying66 hi hz0 hz1 hz2 rfl (by decide) _ _ _ rfl O2.out A2 8 c2 ((octL a).map (Value.int .u8)) rfl rfl K2.out (kone _) (by simp [maxLen]) (by simp) B2.out.size ?_; intro v6 w6 hown6 hgrow6 _; have O6 := hide (show OwnK .u8 5 w6 w.heap.size v6 ([1] ++ octL a) from OwnK.app hown6 rfl rfl); have B6 := hide (B2.out.grown hgrow6 B2.out.size (fun g hg => (O2.out.lt g hg).1)); clear hown6 hgrow6))
  go_wp2_with (first
    | (go_at_call 47; refine (eight_any b _).mono ?_; rintro e w7 ⟨v7, rfl, ho7, hb7⟩; have O7 := hide (O6.out.below hb7); have B7 := hide (B6.out.trans (hb7.mono B6.out.size)); obtain ⟨A7, c7, rfl, hl7, hm7, hk7⟩ := ho7.form; have K7 := hide hk7; clear ho7 hb7 hk7)
    | (at_builtin; refine wpList_append_rd _ rfl _ _ 66 rfl w.heap.size 5 i0 _ 1 1 Tryd.underlying66 hi hz0 hz1 hz2 rfl (by decide) _ _ _ rfl O7.out A7 8 c7 ((octL b).map (Value.int .u8)) rfl rfl K7.out (kone _) (by simp [maxLen, octL]) (by simp [octL]) B7.out.size ?_; intro v8 w8 hown8 hgrow8 _; have O8 := hide (show OwnK .u8 5 w8 w.heap.size v8 ([1] ++ octL a ++ octL b) from OwnK.app hown8 rfl rfl); have B8 := hide (B7.out.grown hgrow8 B7.out.size (fun g hg => (O7.out.lt g hg).1)); obtain ⟨A8, c8, rfl, hl8, hm8, hk8⟩ := O8.out.form; have K8 := hide hk8; clear hown8 hgrow8 hk8)
    | (go_at_call 49; refine (HS.out A8 c8 _ _ (by simp [octL]) K8.out).mono ?_; rintro e w4 ⟨rfl, rfl⟩))
  go_ret
  exact ⟨rfl, B8.out⟩
set_option maxHeartbeats 2000000 in
theorem rSame_any (A B : Option Addr) (c d : Nat) (l m : List Int) (w : World) (hn : l.length ≤ 1000000) (h : KS .u64 w A l) (h' : KS .u64 w B m) :
    Calls Tryd.prog 17 #[.slice A l.length c, .slice B m.length d] w fun e w' => e = .returned (.bool (decide (l = m))) ∧ Below w.heap.size w w' := by
  by_cases he : l.length = m.length
  · have q1 : ((l.length : Int) != (m.length : Int)) = false := by simp [he]
    have H1 := hide h
    have H2 := hide h'
    have HE := hide he
    clear h h' he
    go_enter Tryd.func17, Tryd.ntmps17
    go_wp2
    go_loopw [5] (fun i wr => ∃ k : Nat, k ≤ l.length ∧ i = .int .i64 k ∧ l.take k = m.take k ∧ Below w.heap.size w wr) (fun i _ => l.length - (intOf i).toNat)
    case atStart => exact ⟨0, Nat.zero_le _, rfl, rfl, Below.refl _ _⟩
    case round =>
      obtain ⟨k, hk, rfl, htk, hb⟩ := hrel
      by_cases hlt : k < l.length
      · have d1 : decide ((k : Int) < (l.length : Int)) = true := decide_eq_true (by omega)
        have d2 : decide (k < l.length) = true := decide_eq_true hlt
        have hlt2 : k < m.length := by have := HE.out; omega
        obtain ⟨b1, o1, rfl, hb1, hc1⟩ := (H1.out.then_ hb).at_ hlt
        obtain ⟨b2, o2, rfl, hb2, hc2⟩ := (H2.out.then_ hb).at_ hlt2
        have c1 := hc1 k hlt
        have c2 := hc2 k hlt2
        have n1 := fun x : Fut wr.heap.size wr => (x.cell b1 _ hb1).trans c1
        have n2 := fun x : Fut wr.heap.size wr => (x.cell b2 _ hb2).trans c2
        have p1 : (k : Int) < (m.length : Int) := by omega
        have HB := hide hb
        have HT := hide htk
        have T1 := hide (show l.take (k + 1) = l.take k ++ [l[k]] from List.take_succ_eq_append_getElem hlt)
        have T2 := hide (show m.take (k + 1) = m.take k ++ [m[k]] from List.take_succ_eq_append_getElem hlt2)
        obtain ⟨x, hx⟩ : ∃ x, x = l[k] := ⟨_, rfl⟩
        obtain ⟨y, hy⟩ : ∃ x, x = m[k] := ⟨_, rfl⟩
        rw [← hx] at c1 n1 T1
        rw [← hy] at c2 n2 T2
        have HX := hide hx
        have HY := hide hy
        clear hc1 hc2 hb htk hx hy
        cases hq : (x != y)
        · go_wp2_with fail
          refine wp_region_fut wr.heap.size (by kernel_rfl) (by kernel_rfl) ?_
          repeat (go_big_quiet_step ((first | fail)))
          refine wpQuiet_nil ?_
          intro w4 hq'; have hb4 := Fut.of hq'; clear hq'
          go_wp2
          go_roundw
          case rel => exact ⟨k + 1, by omega, by go_num, by rw [T1.out, T2.out, HT.out, show x = y by simpa using hq], HB.out.trans (hb4.mono HB.out.size)⟩
          case measure => simp [intOf]; omega
        · have HD := hide (show decide (l = m) = false from decide_eq_false fun e => by
            have : l[k] = m[k] := by simp only [e]
            rw [← HX.out, ← HY.out] at this
            simp [this] at hq)
          go_wp2_with fail
          refine wp_region_fut wr.heap.size (by kernel_rfl) (by kernel_rfl) ?_
          repeat (go_big_quiet_step ((first | fail)))
          refine wpQuiet_nil ?_
          intro w4 hq'; have hb4 := Fut.of hq'; clear hq'
          go_wp2
          go_ret
          exact ⟨by rw [HD.out]; rfl, HB.out.trans (hb4.mono HB.out.size)⟩
      · have d1 : decide ((k : Int) < (l.length : Int)) = false := decide_eq_false (by omega)
        have d2 : decide (k < l.length) = false := decide_eq_false hlt
        have HD := hide (show decide (l = m) = true from decide_eq_true (by rw [List.take_of_length_le (by omega), List.take_of_length_le (by have := HE.out; omega)] at htk; exact htk))
        clear htk
        go_wp2
        go_ret
        exact ⟨by rw [HD.out]; rfl, hb⟩
  · have q1 : ((l.length : Int) != (m.length : Int)) = true := by simp; omega
    rw [decide_eq_false (fun e => he (by rw [e]))]
    clear he
    go_enter Tryd.func17, Tryd.ntmps17
    go_wp2
    go_ret
    exact ⟨rfl, Below.refl _ _⟩
theorem hf_eq {e n : Nat} (h1 : 2 ^ e < n) (h2 : n ≤ 2 * 2 ^ e) : 2 ^ e = hf n := by
  have h3 := hf_max h1
  have hn : 2 ≤ n := by have := Nat.two_pow_pos e; omega
  obtain ⟨s1, s2, s3⟩ := hf_spec hn
  have h4 : hf n < 2 ^ (e + 1) := by rw [Nat.pow_succ]; omega
  unfold hf at h4 h3 ⊢
  have := pow_le_iff h4
  have := Nat.pow_le_pow_right (n := 2) (by omega) (show Nat.log2 (n - 1) ≤ e by omega)
  omega
theorem rHalf_any (n : Nat) (w : World) (h : 2 ≤ n) (hn : n ≤ 10000) : Calls Tryd.prog 45 #[.int .i64 n] w fun e w' => e = .returned (.int .i64 (hf n)) ∧ w = w' := by
  go_enter Tryd.func45, Tryd.ntmps45
  go_wp2
  go_loopw [3] (fun u wr => ∃ k : Nat, u = .int .i64 k ∧ (∃ e, k = 2 ^ e) ∧ 1 ≤ k ∧ k < n ∧ wr = w) (fun u _ => n - (intOf u).toNat)
  case atStart => exact ⟨1, rfl, ⟨0, rfl⟩, Nat.le_refl _, by omega, rfl⟩
  case round =>
    obtain ⟨k, rfl, hp, hk1, hkn, rfl⟩ := hrel
    have p1 : (0 : Int) ≤ 2 * (k : Int) := by omega
    have p2 : 2 * (k : Int) ≤ 20000 := by omega
    by_cases hlt : 2 * k < n
    · have d1 : decide (2 * (k : Int) < (n : Int)) = true := decide_eq_true (by omega)
      have HP := hide (show ∃ e, 2 * k = 2 ^ e by obtain ⟨e, rfl⟩ := hp; exact ⟨e + 1, by rw [Nat.pow_succ]; omega⟩)
      clear hp
      go_wp2
      go_roundw
      case rel => exact ⟨2 * k, by go_num, HP.out, by omega, hlt, by trivial⟩
      case measure => simp [intOf]; omega
    · have d1 : decide (2 * (k : Int) < (n : Int)) = false := decide_eq_false (by omega)
      have HP := hide (show k = hf n by obtain ⟨e, rfl⟩ := hp; exact hf_eq hkn (by omega))
      clear hp
      go_wp2
      go_ret
      exact ⟨by rw [← HP.out]; rfl, rfl⟩
set_option maxHeartbeats 2000000 in
theorem rroot_any : ∀ (n : Nat) (A : Option Addr) (c : Nat) (l : List Int) (w : World), l.length = n → 1 ≤ n → n ≤ 10000 → n ≤ c → KS .u64 w A l →
    Calls Tryd.prog 30 #[.slice A n c] w fun e w' => e = .returned (.int .u64 (rootF l)) ∧ Below w.heap.size w w' := by
  intro n
  induction n using Nat.strongRecOn with
  | ind n ih =>
    intro A c l w hl h1 hn hc h
    obtain ⟨b, o, rfl, hbl, hcell⟩ := h.at_ (i := 0) (by omega)
    by_cases hn2 : 2 ≤ n
    · have hsp := rootT_split (lf := leafF) (pr := pairF) (l := l) (by omega)
      rw [hl] at hsp
      obtain ⟨s1, s2, s3⟩ := hf_spec hn2
      have HH := hide fun W => rHalf_any n W hn2 hn
      have hsh := KS.shift (n := hf n) h (by omega)
      obtain ⟨k, hk⟩ : ∃ k, k = hf n := ⟨_, rfl⟩
      rw [← hk] at HH s1 s2 s3 hsp hsh
      have hne : ((n : Int) == 1) = false := by simp; omega
      have p1 : (0 : Int) ≤ k := by omega
      have p2 : (k : Int) ≤ n := by omega
      have p3 : (k : Int) ≤ c := by omega
      have p4 : ¬ c = k := by omega
      have R1 := hide fun (x : Fut w.heap.size w) => ih k s2 (some ⟨b, o, none⟩) c (l.take k) x.v (by simp; omega) s1 (by omega) (by omega) (KS.below (h.pre k) x.h (Nat.le_refl _))
      have R2 := hide fun (x : Fut w.heap.size w) => ih (n - k) (by omega) (some ⟨b, o + k, none⟩) (c - k) (l.drop k) x.v (by simp; omega) (by omega) (by omega) (by omega) (KS.below hsh x.h (Nat.le_refl _))
      have HSP := hide hsp
      clear hsp ih hk hsh hcell h
      obtain ⟨u, hx⟩ : ∃ x, x = rootF (l.take k) := ⟨_, rfl⟩
      obtain ⟨v, hy⟩ : ∃ x, x = rootF (l.drop k) := ⟨_, rfl⟩
      have HX := hide hx
      have HY := hide hy
      rw [← hx] at R1
      rw [← hy] at R2
      clear hx hy
      go_enter Tryd.func30, Tryd.ntmps30
      go_upto_region 4 with (go_at_call 45; refine (HH.out _).mono ?_; rintro e w2 ⟨rfl, rfl⟩)
      refine wp_region_fut w.heap.size (by kernel_rfl) (by kernel_rfl) ?_
      repeat (go_big_quiet_step ((first | (go_at_call 30; (first | with_reducible exact Fut.call (Nat.le_refl _) (R1.out _) | with_reducible exact Fut.call (Nat.le_refl _) (R2.out _))) | (go_at_call 46; exact Fut.call (Nat.le_refl _) (rPair_any _ _ _)))))
      refine wpQuiet_nil ?_
      intro w4 hq'; have hb4 := Fut.of hq'; clear hq'
      go_wp2
      go_ret
      exact ⟨by rw [show rootF l = pairF u v by rw [HX.out, HY.out]; exact HSP.out]; rfl, hb4⟩
    · obtain rfl : n = 1 := by omega
      have hr : rootF l = leafF l[0] := by
        unfold rootF
        rw [rootT_one (by omega)]
        congr 1
        cases l with
        | nil => simp at hl
        | cons x l => rfl
      rw [hr]
      have c0 := hcell 0 (by omega)
      rw [Nat.add_zero] at c0
      clear hr hcell ih
      go_enter Tryd.func30, Tryd.ntmps30
      go_wp2_with (go_at_call 14; refine (rLeaf_any _ _).mono ?_; rintro e w2 ⟨rfl, hb⟩)
      go_ret
      exact ⟨rfl, hb⟩
theorem rcheck_any (A : Option Addr) (c : Nat) (l : List Int) (w : World) : Calls Tryd.prog 29 #[.slice A l.length c] w fun e w' => e = .returned (.int .i64 (checkS l)) ∧ w = w' := by
  unfold checkS
  obtain ⟨n, hn⟩ : ∃ n, n = l.length := ⟨_, rfl⟩
  rw [← hn]
  clear hn
  by_cases h0 : n = 0
  · subst h0
    go_enter Tryd.func29, Tryd.ntmps29
    go_wp2
    go_ret
    exact ⟨rfl, rfl⟩
  · have q0 : decide ((n : Int) < 1) = false := decide_eq_false (by omega)
    by_cases h1 : 4096 < n
    · have q1 : decide (4096 < (n : Int)) = true := by simp; omega
      rw [if_neg h0, if_pos h1]
      go_enter Tryd.func29, Tryd.ntmps29
      go_wp2
      go_ret
      exact ⟨rfl, rfl⟩
    · have q1 : decide (4096 < (n : Int)) = false := by simp; omega
      rw [if_neg h0, if_neg h1]
      go_enter Tryd.func29, Tryd.ntmps29
      go_wp2
      go_ret
      exact ⟨rfl, rfl⟩
theorem rRoot_any (A : Option Addr) (c : Nat) (l : List Int) (w : World) (hc : l.length ≤ c) (h : KS .u64 w A l) :
    Calls Tryd.prog 12 #[.slice A l.length c] w fun e w' => e = .returned (.tuple #[.int .u64 (rootS l).1, .int .i64 (rootS l).2]) ∧ Below w.heap.size w w' := by
  have HC := hide fun W => rcheck_any A c l W
  unfold rootS
  by_cases hk : checkS l = 0
  · obtain ⟨h1, h2⟩ := checkS_ok hk
    have R := hide (rroot_any l.length A c l w rfl h1 (by omega) hc h)
    rw [if_neg (by simpa using hk)]
    rw [hk] at HC
    clear hk
    go_enter Tryd.func12, Tryd.ntmps12
    go_wp2_with (first
      | (go_at_call 29; refine (HC.out _).mono ?_; rintro e w2 ⟨rfl, rfl⟩)
      | (go_at_call 30; refine R.out.mono ?_; rintro e w3 ⟨rfl, hb⟩))
    go_ret2
    exact ⟨rfl, hb⟩
  · rw [if_pos hk]
    obtain ⟨x, hx⟩ : ∃ x, x = checkS l := ⟨_, rfl⟩
    rw [← hx] at HC hk ⊢
    have q : (x != 0) = true := by simp [hk]
    clear hk hx
    go_enter Tryd.func12, Tryd.ntmps12
    go_wp2_with (go_at_call 29; refine (HC.out _).mono ?_; rintro e w2 ⟨rfl, rfl⟩)
    go_ret2
    exact ⟨rfl, Below.refl _ _⟩
end Go.Proofs.YtijnjgjpmgmifaaDoor
