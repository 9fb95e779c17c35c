/-
  The walks of the parts and the root of a hash tree.
-/
import Derived.Test.YtijnjgjpmgmifaaDoorDr
import Derived.Test.YtijnjgjpmgmifaaDoorBit24
import Derived.Test.YtijnjgjpmgmifaaDoorTr3
namespace Go.Proofs.YtijnjgjpmgmifaaDoor
open Go.RowKit
theorem bitLenAux_eq : ∀ (f x : Nat), x < 2 ^ f → Lib.bitLenAux f x = if x = 0 then 0 else Nat.log2 x + 1
  | 0, x, h => by
    rw [Nat.pow_zero] at h
    obtain rfl : x = 0 := by omega
    rfl
  | f + 1, x, h => by
    rw [Lib.bitLenAux, bitLenAux_eq f (x / 2) (by rw [Nat.pow_succ] at h; omega)]
    by_cases h0 : x = 0
    · simp [h0]
    · rw [if_neg h0, if_neg h0]
      by_cases h1 : x / 2 = 0
      · rw [if_pos h1]
        obtain rfl : x = 1 := by omega
        rfl
      · rw [if_neg h1, Nat.log2_def (n := x), if_pos (by omega)]; omega
theorem bitLen_eq {x : Nat} (h0 : 0 < x) (h : x < 10000) : Lib.bitLen x = Nat.log2 x + 1 := by
  unfold Lib.bitLen
  rw [bitLenAux_eq 64 x (by omega), if_neg (by omega)]
set_option maxHeartbeats 1000000 in
theorem half_any (n : Nat) (w : World) (h : 2 ≤ n) (hn : n ≤ 10000) : Calls Tryd.prog 50 #[.int .i64 n] w fun e w' => e = .returned (.int .i64 (hf n)) ∧ w = w' := by
  have hb := bitLen_eq (x := n - 1) (by omega) (by omega)
  have hb2 : Nat.log2 (n - 1) < 14 := by
    have h1 := Nat.log2_self_le (n := n - 1) (by omega)
    refine Nat.lt_of_not_le fun h2 => ?_
    have h3 : 2 ^ 14 ≤ 2 ^ Nat.log2 (n - 1) := Nat.pow_le_pow_right (by omega) h2
    omega
  have hl := Tryd.bits_Len ((n : Int) - 1)  w (by omega) (by omega)
  rw [show ((n : Int) - 1).toNat = n - 1 by omega, hb] at hl
  have H := hide hl
  have h1 : (0 : Int) ≤ (n : Int) - 1 := by omega
  have h2 : (n : Int) - 1 ≤ 10000 := by omega
  unfold hf
  obtain ⟨e, he⟩ : ∃ e, e = Nat.log2 (n - 1) := ⟨_, rfl⟩
  rw [← he] at H hb2 ⊢
  clear hb hl he
  go_enter Tryd.func50, Tryd.ntmps50
  go_wp2_with (go_at_call 51; refine H.out.mono ?_; rintro e w2 ⟨rfl, rfl⟩)
  go_ret
  exact ⟨congrArg (fun x => Ending.returned (.int .i64 x)) ((by decide +kernel : ∀ e < 14, wrap64 ((2 : Int) ^ e) = ((2 ^ e : Nat) : Int)) e hb2), rfl⟩
set_option maxHeartbeats 2000000 in
theorem parts_any (b o c n : Nat) (w : World) (h : 2 ≤ n) (hn : n ≤ 10000) (hc : n ≤ c) : Calls Tryd.prog 32 #[.slice (some ⟨b, o, none⟩) n c] w fun e w' =>
    e = .returned (.tuple #[.slice (some ⟨b, o, none⟩) (hf n) (hf n), .slice (some ⟨b, o + hf n, none⟩) (n - hf n) (n - hf n)]) ∧ Below w.heap.size w w' := by
  have HH := hide fun W => half_any n W h hn
  obtain ⟨s1, s2, s3⟩ := hf_spec h
  obtain ⟨k, hk⟩ : ∃ k, k = hf n := ⟨_, rfl⟩
  rw [← hk] at HH s1 s2 s3 ⊢
  have p1 : (0 : Int) ≤ k := by omega
  have p2 : (k : Int) ≤ n := by omega
  have p3 : (k : Int) ≤ c := by omega
  have p4 : (n : Int) ≤ c := by omega
  have p5 : ¬ n = k := by omega
  have p6 : ¬ c = k := by omega
  clear hk
  go_enter Tryd.func32, Tryd.ntmps32
  go_upto_region 3 with (go_at_call 50; refine (HH.out _).mono ?_; rintro e w2 ⟨rfl, rfl⟩)
  go_region
  all_goals
    go_wp2
    go_ret2
    exact ⟨rfl, (Below.refl _ _).drew⟩
/-- the root by the program's digests -/
def rootF (l : List Int) : Int := rootT leafF pairF l
set_option maxHeartbeats 2000000 in
theorem root_any : ∀ (n : Nat) (A : Option Addr) (c : Nat) (l : List Int) (w : World), l.length = n → 1 ≤ n → n ≤ 10000 → n ≤ c → KS .u64 w A l →
    Calls Tryd.prog 28 #[.slice A n c] w fun e w' => e = .returned (.int .u64 (rootF l)) ∧ Below w.heap.size w w' := by
  intro n
  induction n using Nat.strongRecOn with
  | ind n ih =>
    intro A c l w hl h1 hn hc h
    obtain ⟨b, o, rfl, hbl, hcell⟩ := h.at_ (i := 0) (by omega)
    by_cases hn2 : 2 ≤ n
    · have hsp := rootT_split (lf := leafF) (pr := pairF) (l := l) (by omega)
      rw [hl] at hsp
      obtain ⟨s1, s2, s3⟩ := hf_spec hn2
      have PP := hide fun W => parts_any b o c n W hn2 hn hc
      have hsh := KS.shift (n := hf n) h (by omega)
      obtain ⟨k, hk⟩ : ∃ k, k = hf n := ⟨_, rfl⟩
      rw [← hk] at PP s1 s2 s3 hsp hsh
      have hne : ((n : Int) == 1) = false := by simp; omega
      have R1 := hide fun W (s : KS .u64 W (some ⟨b, o, none⟩) (l.take k)) => ih k s2 (some ⟨b, o, none⟩) k (l.take k) W (by simp; omega) s1 (by omega) (Nat.le_refl _) s
      have R2 := hide fun W (s : KS .u64 W (some ⟨b, o + k, none⟩) (l.drop k)) => ih (n - k) (by omega) (some ⟨b, o + k, none⟩) (n - k) (l.drop k) W (by simp; omega) (by omega) (by omega) (Nat.le_refl _) s
      have K1 := hide (h.pre k)
      have K2 := hide hsh
      have HSP := hide hsp
      clear hsp ih hk hsh hcell h
      obtain ⟨x, hx⟩ : ∃ x, x = rootF (l.take k) := ⟨_, rfl⟩
      obtain ⟨y, hy⟩ : ∃ x, x = rootF (l.drop k) := ⟨_, rfl⟩
      have HX := hide hx
      have HY := hide hy
      rw [← hx] at R1
      rw [← hy] at R2
      clear hx hy
      go_enter Tryd.func28, Tryd.ntmps28
      go_wp2_with (first
        | (go_at_call 32; refine (PP.out _).mono ?_; rintro e w2 ⟨rfl, hb⟩; have K1 := hide (K1.out.then_ hb); have K2 := hide (K2.out.then_ hb); have BB := hide hb; clear hb)
        | (go_at_call 28; with_reducible refine (R1.out _ K1.out).mono ?_; rintro e w3 ⟨rfl, hb⟩; have K2 := hide (K2.out.then_ hb); have BB := hide (BB.out.trans (hb.mono BB.out.size)); clear hb K1)
        | (go_at_call 28; with_reducible refine (R2.out _ K2.out).mono ?_; rintro e w4 ⟨rfl, hb⟩; have BB := hide (BB.out.trans (hb.mono BB.out.size)); clear hb)
        | (go_at_call 25; refine (pair_any _ _ _).mono ?_; rintro e w5 ⟨rfl, hb⟩; have BB := hide (BB.out.trans (hb.mono BB.out.size)); clear hb))
      go_ret
      exact ⟨by rw [show rootF l = pairF x y by rw [HX.out, HY.out]; exact HSP.out]; rfl, BB.out⟩
    · obtain rfl : n = 1 := by omega
      have hr : rootF l = leafF l[0] := by
        unfold rootF
        rw [rootT_one (by omega)]
        congr 1
        cases l with
        | nil => simp at hl
        | cons x l => rfl
      rw [hr]
      have c0 := hcell 0 (by omega)
      rw [Nat.add_zero] at c0
      clear hr hcell ih
      go_enter Tryd.func28, Tryd.ntmps28
      go_wp2_with (go_at_call 13; refine (leaf_any _ _).mono ?_; rintro e w2 ⟨rfl, hb⟩)
      go_ret
      exact ⟨rfl, hb⟩
/-- what is wrong with a list -/
def checkS (l : List Int) : Int := if l.length = 0 then 1 else if 4096 < l.length then 2 else 0
theorem check_any (A : Option Addr) (c : Nat) (l : List Int) (w : World) : Calls Tryd.prog 27 #[.slice A l.length c] w fun e w' => e = .returned (.int .i64 (checkS l)) ∧ w = w' := by
  unfold checkS
  obtain ⟨n, hn⟩ : ∃ n, n = l.length := ⟨_, rfl⟩
  rw [← hn]
  clear hn
  by_cases h0 : n = 0
  · subst h0
    go_enter Tryd.func27, Tryd.ntmps27
    go_wp2
    go_ret
    exact ⟨rfl, rfl⟩
  · have q0 : ((n : Int) == 0) = false := by simp; omega
    by_cases h1 : 4096 < n
    · have q1 : decide (4096 < (n : Int)) = true := by simp; omega
      rw [if_neg h0, if_pos h1]
      go_enter Tryd.func27, Tryd.ntmps27
      go_wp2
      go_ret
      exact ⟨rfl, rfl⟩
    · have q1 : decide (4096 < (n : Int)) = false := by simp; omega
      rw [if_neg h0, if_neg h1]
      go_enter Tryd.func27, Tryd.ntmps27
      go_wp2
      go_ret
      exact ⟨rfl, rfl⟩
/-- tree.Root -/
def rootS (l : List Int) : Int × Int := if checkS l ≠ 0 then (0, checkS l) else (rootF l, 0)
theorem checkS_ok {l : List Int} (h : checkS l = 0) : 1 ≤ l.length ∧ l.length ≤ 4096 := by
  unfold checkS at h
  split at h
  · cases h
  · split at h
    · cases h
    · omega
theorem Root_any (A : Option Addr) (c : Nat) (l : List Int) (w : World) (hc : l.length ≤ c) (h : KS .u64 w A l) :
    Calls Tryd.prog 11 #[.slice A l.length c] w fun e w' => e = .returned (.tuple #[.int .u64 (rootS l).1, .int .i64 (rootS l).2]) ∧ Below w.heap.size w w' := by
  have HC := hide fun W => check_any A c l W
  unfold rootS
  by_cases hk : checkS l = 0
  · obtain ⟨h1, h2⟩ := checkS_ok hk
    have R := hide (root_any l.length A c l w rfl h1 (by omega) hc h)
    rw [if_neg (by simpa using hk)]
    rw [hk] at HC
    clear hk
    go_enter Tryd.func11, Tryd.ntmps11
    go_wp2_with (first
      | (go_at_call 27; refine (HC.out _).mono ?_; rintro e w2 ⟨rfl, rfl⟩)
      | (go_at_call 28; refine R.out.mono ?_; rintro e w3 ⟨rfl, hb⟩))
    go_ret2
    exact ⟨rfl, hb⟩
  · rw [if_pos hk]
    obtain ⟨x, hx⟩ : ∃ x, x = checkS l := ⟨_, rfl⟩
    rw [← hx] at HC hk ⊢
    have q : (x != 0) = true := by simp [hk]
    clear hk hx
    go_enter Tryd.func11, Tryd.ntmps11
    go_wp2_with (go_at_call 27; refine (HC.out _).mono ?_; rintro e w2 ⟨rfl, rfl⟩)
    go_ret2
    exact ⟨rfl, Below.refl _ _⟩
end Go.Proofs.YtijnjgjpmgmifaaDoor
