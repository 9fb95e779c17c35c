/-
  Texts joined: Ex, Ed, Ee, Ra, Rl, Ri, Rx, Rg, Ht, Dy, Dz, Zh, Zl, Z0, Z1, Z2, Z3.
-/
import Derived.Deep.RegionHeld3
import Derived.Test.YtggaodokkcoagaaGreatDoorProg
import Derived.Test.YtggaodokkcoagaaGreatDoorL60
import Derived.Test.YtggaodokkcoagaaGreatDoorL61
set_option linter.unusedSimpArgs false
set_option linter.unusedVariables false
set_option maxRecDepth 100000
set_option maxHeartbeats 16000000
namespace Go.Proofs.YtggaodokkcoagaaGreatDoor
open Go.RowKit
def extF (l : List Int) (m : Nat) (mark : Bool) : List Int := extT leafF pairF l m mark
theorem extF_left {l : List Int} {m : Nat} {mark : Bool} (h : 2 ≤ l.length ∧ m ≠ l.length) (hm : m ≤ hf l.length) : extF l m mark = extF (l.take (hf l.length)) m mark ++ [rootF (l.drop (hf l.length))] := extT_left h hm
theorem extF_right {l : List Int} {m : Nat} {mark : Bool} (h : 2 ≤ l.length ∧ m ≠ l.length) (hm : ¬m ≤ hf l.length) : extF l m mark = extF (l.drop (hf l.length)) (m - hf l.length) false ++ [rootF (l.take (hf l.length))] := extT_right h hm
theorem extF_end {l : List Int} {m : Nat} {mark : Bool} (h : ¬(2 ≤ l.length ∧ m ≠ l.length)) : extF l m mark = if mark = true then [] else [rootF l] := extT_end h
def extS (l : List Int) (m : Int) : List Int × Int := if checkS l ≠ 0 then ([], checkS l) else if m < 1 ∨ (l.length : Int) < m then ([], 1) else (extF l m.toNat true, 0)
theorem Extend_anyF (A : Option Addr) (c : Nat) (l : List Int) (i : Int) (w : World) (hc : l.length ≤ c) (h : KS .u64 w A l) :
  Calls Tryz.prog 25 #[.slice A l.length c, .int .i64 i] w fun e w' => ∃ A' c', e = .returned (.tuple #[.slice A' (extS l i).1.length c', .int .i64 (extS l i).2]) ∧ (extS l i).1.length ≤ c' ∧ c' ≤ maxLen ∧ (KS .u64 w' A' (extS l i).1 ∧ FrA w A') ∧ Below w.heap.size w w' := by
 have HC := hide fun W => check_any A c l W
 unfold extS
 by_cases hk : checkS l = 0
 ·obtain ⟨h1, h2⟩ := checkS_ok hk; rw [if_neg (by simpa using hk)]; rw [hk] at HC; clear hk
  by_cases hbad : i < 1 ∨ (l.length : Int) < i
  ·rw [if_pos hbad]; have hcase : decide (i < 1) = true ∨ decide (i < 1) = false ∧ decide ((l.length : Int) < i) = true := by
    simp only [decide_eq_true_eq, decide_eq_false_iff_not]; omega
   clear hbad; rcases hcase with q1 | ⟨q1, q2⟩
   all_goals
    go_enter Tryz.func25, Tryz.ntmps25
    go_wp2_with (go_at_call 67; refine (HC.out _).mono ?_; rintro e w2 ⟨rfl, rfl⟩)
    go_ret2
    exact ⟨none, 0, rfl, Nat.le_refl _, by simp [maxLen], ⟨Rd.nil _ _, fun _ _ h => by cases h⟩, Below.refl _ _⟩
  ·rw [if_neg hbad]; obtain ⟨j, rfl⟩ : ∃ j : Nat, i = j := ⟨i.toNat, by omega⟩; have q1 : decide ((j : Int) < 1) = false := decide_eq_false (by omega); have q2 : decide ((l.length : Int) < j) = false := decide_eq_false (by omega); have q3 : decide (l.length < j) = false := decide_eq_false (by omega); obtain ⟨b, o, rfl, hbl, hcell⟩ := h.at_ (i := 0) (by omega); have hjl : j ≤ l.length := by omega
   have hj1 : 1 ≤ j := by omega
   obtain ⟨res, hres⟩ : ∃ r, r = extF l j true := ⟨_, rfl⟩; obtain ⟨i0, hi, hz0, hz1, hz2⟩ := info_parts infoU; rw [Int.toNat_natCast, ← hres]; have HRES := hide hres; have K := hide h; clear hbad hcell h hres
   go_enter Tryz.func25, Tryz.ntmps25
   go_wp2_with (go_at_call 67; refine (HC.out _).mono ?_; rintro e w2 ⟨rfl, rfl⟩)
   go_loopw [0, 1, 7, 8, 9, 10] (fun u0 u1 u7 u8 _ _ wr => ∃ (b' o' c' : Nat) (l' : List Int) (i' : Nat) (path : List Int) (mark : Bool), u0 = .slice (some ⟨b', o', none⟩) l'.length c' ∧ l'.length ≤ c' ∧ 1 ≤ l'.length ∧ u1 = .int .i64 i' ∧ 1 ≤ i' ∧ i' ≤ l'.length ∧ u8 = .bool mark ∧ KS .u64 w (some ⟨b', o', none⟩) l' ∧ OwnK .u64 23 wr w.heap.size u7 path ∧ path.length + l'.length ≤ l.length ∧ extF l' i' mark ++ path.reverse = res ∧ Below w.heap.size w wr) (fun u0 _ _ _ _ _ _ => lenV u0)
   case atStart => exact ⟨b, o, c, l, j, [], true, rfl, hc, h1, rfl, hj1, hjl, rfl, K.out, OwnK.nil, by simp, by simp [HRES.out], Below.refl _ _⟩
   case round =>
    clear K HRES hbl hc HC
    rename World => wo
    obtain ⟨b', o', c', l', i', path, mark, rfl, hlc, hl1, rfl, hi1, hil, rfl, hks, ho, hpl, hpath, hb⟩ := hrel
    by_cases hn : i' < l'.length
    ·have d1 : decide ((i' : Int) < (l'.length : Int)) = true := decide_eq_true (by omega); have d2 : decide (i' < l'.length) = true := decide_eq_true (by omega); have hn2 : 2 ≤ l'.length := by omega
     obtain ⟨s1, s2, s3⟩ := hf_spec hn2; have PP := hide fun W => parts_any b' o' c' l'.length W hn2 (by omega) hlc
     have K1 := hide (KS.pre hks (hf l'.length)); have K2 := hide (KS.shift hks (n := hf l'.length) (by omega)); have HB := hide hb; have HO := hide ho; have HL := hide (@extF_left l' i' mark ⟨hn2, by omega⟩); have HR := hide (@extF_right l' i' mark ⟨hn2, by omega⟩); have HP := hide hpath; have R1 := hide fun W (s : KS .u64 W (some ⟨b', o', none⟩) (l'.take (hf l'.length))) => root_any (hf l'.length) (some ⟨b', o', none⟩) (hf l'.length) _ W (by simp; omega) s1 (by omega) (Nat.le_refl _) s
     have R2 := hide fun W (s : KS .u64 W (some ⟨b', o' + hf l'.length, none⟩) (l'.drop (hf l'.length))) => root_any (l'.length - hf l'.length) (some ⟨b', o' + hf l'.length, none⟩) (l'.length - hf l'.length) _ W (by simp) (by omega) (by omega) (Nat.le_refl _) s
     clear hks hb ho hpath hlc; obtain ⟨k, hk⟩ : ∃ k, k = hf l'.length := ⟨_, rfl⟩; rw [← hk] at PP s1 s2 s3 K1 K2 HL HR R1 R2; clear hk
     by_cases hik : i' ≤ k
     ·have d3 : decide ((i' : Int) ≤ (k : Int)) = true := decide_eq_true (by omega); have d4 : decide (i' ≤ k) = true := decide_eq_true (by omega); have HP2 := hide (show extF (l'.take k) i' mark ++ (path ++ [rootF (l'.drop k)]).reverse = res by rw [← HP.out, HL.out hik]; simp); clear HL HR R1 HP
      go_wp2_with (first
       | (go_at_call 68; refine (PP.out _).mono ?_; rintro e w2 ⟨rfl, hb⟩; have HB := hide (HB.out.trans (hb.mono HB.out.size)); have HO := hide (HO.out.below hb); clear hb)
       | (go_at_call 69; with_reducible refine (R2.out _ (K2.out.then_ HB.out)).mono ?_; rintro e w3 ⟨rfl, hb⟩; have HB := hide (HB.out.trans (hb.mono HB.out.size)); have HO := hide (HO.out.below hb); clear hb)
       | (at_builtin; refine wpList_append_rd _ rfl _ _ 32 rfl w.heap.size 23 i0 _ 1 8 Tryz.underlying32 hi hz0 hz1 hz2 rfl (by decide) _ _ _ rfl (OwnK.below HO.out ((Below.refl _ _).alloc (Nat.le_refl _) _)) (some ⟨w3.heap.size, 0, none⟩) 1 1 [.int .u64 (rootF (l'.drop k))] rfl rfl (Rd.new_row _ _ _) (by simp [Value.oneCell']) (by simp only [maxLen]; omega) (by omega) (by have := HB.out.size; simp; omega) ?_; intro v' w6 hown' hgrow _; have HB6 := hide ((HB.out.alloc HB.out.size _).grown hgrow (by have := HB.out.size; simp; omega) (fun g hg => (HO.out.lt g hg).1)); have HO6 := hide (OwnK.snoc hown' rfl rfl); clear hown' hgrow))
      go_roundw
      case rel => exact ⟨b', o', k, l'.take k, i', path ++ [rootF (l'.drop k)], mark, by rw [List.length_take, Nat.min_eq_left (by omega)], by simp; omega, by simp; omega, rfl, hi1, by rw [List.length_take, Nat.min_eq_left (by omega)]; exact hik, rfl, K1.out, HO6.out, by simp; omega, HP2.out, HB6.out⟩
      case measure => simp [lenV]; omega
     ·have d3 : decide ((i' : Int) ≤ (k : Int)) = false := decide_eq_false (by omega); have d4 : decide (i' ≤ k) = false := decide_eq_false (by omega); have HP2 := hide (show extF (l'.drop k) (i' - k) false ++ (path ++ [rootF (l'.take k)]).reverse = res by rw [← HP.out, HR.out hik]; simp); have p1 : (0 : Int) ≤ (i' : Int) - k := by omega
      have p2 : (i' : Int) - k ≤ 10000 := by omega
      have p3 := hide (show ((i' - k : Nat) : Int) = (i' : Int) - k by omega); clear HL HR R2 HP
      go_wp2_with (first
       | (go_at_call 68; refine (PP.out _).mono ?_; rintro e w2 ⟨rfl, hb⟩; have HB := hide (HB.out.trans (hb.mono HB.out.size)); have HO := hide (HO.out.below hb); clear hb)
       | (go_at_call 69; with_reducible refine (R1.out _ (K1.out.then_ HB.out)).mono ?_; rintro e w3 ⟨rfl, hb⟩; have HB := hide (HB.out.trans (hb.mono HB.out.size)); have HO := hide (HO.out.below hb); clear hb)
       | (at_builtin; refine wpList_append_rd _ rfl _ _ 32 rfl w.heap.size 23 i0 _ 1 8 Tryz.underlying32 hi hz0 hz1 hz2 rfl (by decide) _ _ _ rfl (OwnK.below HO.out ((Below.refl _ _).alloc (Nat.le_refl _) _)) (some ⟨w3.heap.size, 0, none⟩) 1 1 [.int .u64 (rootF (l'.take k))] rfl rfl (Rd.new_row _ _ _) (by simp [Value.oneCell']) (by simp only [maxLen]; omega) (by omega) (by have := HB.out.size; simp; omega) ?_; intro v' w6 hown' hgrow _; have HB6 := hide ((HB.out.alloc HB.out.size _).grown hgrow (by have := HB.out.size; simp; omega) (fun g hg => (HO.out.lt g hg).1)); have HO6 := hide (OwnK.snoc hown' rfl rfl); clear hown' hgrow))
      go_roundw
      case rel => exact ⟨b', o' + k, l'.length - k, l'.drop k, i' - k, path ++ [rootF (l'.take k)], false, by rw [List.length_drop], by simp, by simp; omega, by rw [p3.out], by omega, by simp; omega, rfl, K2.out, HO6.out, by simp; omega, HP2.out, HB6.out⟩
      case measure => simp [lenV]; omega
    ·have d1 : decide ((i' : Int) < (l'.length : Int)) = false := decide_eq_false (by omega); have d2 : decide (i' < l'.length) = false := decide_eq_false (by omega); rw [extF_end (by omega)] at hpath; have HB := hide hb; cases mark
     ·rw [if_neg (by simp)] at hpath; obtain ⟨pl, hpp⟩ : ∃ pl, pl = path ++ [rootF l'] := ⟨_, rfl⟩; have HE := hide (show pl.reverse = res by rw [← hpath, hpp]; simp); have HPL := hide hpp; have REV := hide (fun A7 c7 W (s : OwnK .u64 23 W w.heap.size (.slice A7 pl.length c7) pl) => revK_any w.heap.size A7 pl.length c7 pl W (by rw [hpp]; simp; omega) s); have HO := hide ho; have K0 := hide hks; have R0 := hide fun W (s : KS .u64 W (some ⟨b', o', none⟩) l') => root_any l'.length (some ⟨b', o', none⟩) c' l' W rfl hl1 (by omega) hlc s
      clear hn hpath hks ho hb hpp
      go_wp2_with (first
       | (go_at_call 69; refine (R0.out _ (K0.out.then_ HB.out)).mono ?_; rintro e w3 ⟨rfl, hb⟩; have HB := hide (HB.out.trans (hb.mono HB.out.size)); have HO := hide (HO.out.below hb); clear hb)
       | (at_builtin; refine wpList_append_rd _ rfl _ _ 32 rfl w.heap.size 23 i0 _ 1 8 Tryz.underlying32 hi hz0 hz1 hz2 rfl (by decide) _ _ _ rfl (OwnK.below HO.out ((Below.refl _ _).alloc (Nat.le_refl _) _)) (some ⟨w3.heap.size, 0, none⟩) 1 1 [.int .u64 (rootF l')] rfl rfl (Rd.new_row _ _ _) (by simp [Value.oneCell']) (by simp only [maxLen]; omega) (by omega) (by have := HB.out.size; simp; omega) ?_; intro v' w6 hown' hgrow _; have HB := hide ((HB.out.alloc HB.out.size _).grown hgrow (by have := HB.out.size; simp; omega) (fun g hg => (HO.out.lt g hg).1)); have ho6 := OwnK.snoc hown' rfl rfl; rw [← HPL.out] at ho6; clear hown' hgrow HO; obtain ⟨A7, c7, rfl, hl7, hm7, _⟩ := OwnK.form ho6; have HO := hide ho6; clear ho6)
       | (go_at_call 70; with_reducible refine (REV.out A7 c7 _ HO.out).mono ?_; rintro e w2 ⟨⟨_, rfl⟩, ho2, row, hg2, hr2⟩; have HO := hide ho2; have HB := hide (HB.out.grown hg2 HB.out.size hr2); clear ho2 hg2 hr2))
      go_ret2
      obtain ⟨A8, c8, h8, hl8, hm8, hk8⟩ := HO.out.form
      injection h8 with h8a h8b h8c
      subst h8a h8c; rw [HE.out] at hl8 hk8; exact ⟨A7, c7, by rw [← HE.out, List.length_reverse]; rfl, hl8, hm8, ⟨hk8, HO.out.fresh⟩, HB.out⟩
     ·rw [if_pos rfl, List.nil_append] at hpath; subst hpath; obtain ⟨A7, c7, rfl, hl7, hm7, hk7⟩ := ho.form; have REV := hide (fun W (s : OwnK .u64 23 W w.heap.size (.slice A7 path.length c7) path) => revK_any w.heap.size A7 path.length c7 path W (by omega) s); have HO := hide ho; clear hn hk7 ho hb hks
      go_wp2_with (go_at_call 70; refine (REV.out _ HO.out).mono ?_; rintro e w2 ⟨⟨_, rfl⟩, ho2, row, hg2, hr2⟩; have HO := hide ho2; have HB := hide (HB.out.grown hg2 HB.out.size hr2); clear ho2 hg2 hr2)
      go_ret2
      obtain ⟨A8, c8, h8, hl8, hm8, hk8⟩ := HO.out.form
      injection h8 with h8a h8b h8c
      subst h8a h8c; exact ⟨A7, c7, by rw [List.length_reverse]; rfl, hl8, hm8, ⟨hk8, HO.out.fresh⟩, HB.out⟩
 ·rw [if_pos hk]; obtain ⟨x, hx⟩ : ∃ x, x = checkS l := ⟨_, rfl⟩; rw [← hx] at HC hk ⊢; have q : (x != 0) = true := by simp [hk]
  clear hk hx
  go_enter Tryz.func25, Tryz.ntmps25
  go_wp2_with (go_at_call 67; refine (HC.out _).mono ?_; rintro e w2 ⟨rfl, rfl⟩)
  go_ret2
  exact ⟨none, 0, rfl, Nat.le_refl _, by simp [maxLen], ⟨Rd.nil _ _, fun _ _ h => by cases h⟩, Below.refl _ _⟩
theorem wrapsI63 (n : Int) (h₀ : 0 ≤ n) (h₁ : n < 2 ^ 63) : IntKind.i64.wrap n = n := IntWalk.i64_in _ (by omega)
theorem pow_bits0 : ∀ i < 65, ∀ j < 64, 1 ≤ 64 * i + j → (((64 * i + j) &&& (64 * i + j - 1) = 0) ↔ 64 * i + j = 2 ^ Nat.log2 (64 * i + j)) := by decide +kernel
theorem pow_bits (m : Nat) (h : m < 4097) (h1 : 1 ≤ m) : (m &&& (m - 1) = 0) ↔ m = 2 ^ Nat.log2 m := by
 have := pow_bits0 (m / 64) (by omega) (m % 64) (by omega); rw [Nat.div_add_mod] at this; exact this h1
theorem isPow_iff {m : Nat} (h1 : 1 ≤ m) (h : m ≤ 4096) : isPow m ↔ m &&& (m - 1) = 0 := by
 rw [pow_bits m (by omega) h1]; constructor
 ·rintro ⟨e, rfl⟩; rw [Nat.log2_two_pow]
 ·intro h; exact ⟨_, h⟩
theorem and_pred {m : Nat} (h1 : 1 ≤ m) (h : m ≤ 4096) : bits .and .i64 (m : Int) ((m : Int) - 1) = ((m &&& (m - 1) : Nat) : Int) := by
 have := (bits_nat .i64 63 (by decide) wrapsI63 m (m - 1) (by omega) (by omega)).1; rw [← this]
 congr 1
 omega
theorem OwnK.blk_lt {k : IntKind} {e : TypeId} {w : World} {base n c : Nat} {A : Option Addr} {l : List Int} (h : OwnK k e w base (.slice A n c) l) : ∀ a, A = some a → a.block < w.heap.size := by
 rintro a rfl; rcases h.2 with ⟨hv, _⟩ | ⟨g, cap, cur, hv, hg, hh, _⟩
 ·injection hv with e1; cases e1
 ·injection hv with e1
  injection e1 with e1
  subst e1; exact (Array.getElem?_eq_some_iff.1 hh).1
def frE (s : Int × Int) (p : Int) : Int × Int := (pairF p s.1, pairF p s.2)
def flE (s : Int × Int) (p : Int) : Int × Int := (s.1, pairF s.2 p)
def growS (a b m n : Int) (path : List Int) : Bool := if n < 1 ∨ 4096 < n ∨ m < 1 ∨ n < m then false else decide (growO pairF a m.toNat n.toNat true path = some (a, b))
theorem ext_pow (a b : Int) (mm nn : Nat) (A : Option Addr) (c : Nat) (path : List Int) (w : World) (hp : path.length ≤ 1000) (hm1 : 1 ≤ mm) (hmn : mm < nn) (hn : nn ≤ 4096) (hpow : isPow mm) (h : KS .u64 w A path) :
    Calls Tryz.prog 37 #[.int .u64 a, .int .u64 b, .int .i64 (mm : Int), .int .i64 (nn : Int), .slice A path.length c] w fun e w' => e = .returned (.bool (decide (growO pairF a mm nn true path = some (a, b)))) ∧ Below w.heap.size w w' := by
  have q1 : decide ((nn : Int) < 1) = false := decide_eq_false (by omega)
  have q2 : decide (4096 < (nn : Int)) = false := decide_eq_false (by omega)
  have q3 : decide ((mm : Int) < 1) = false := decide_eq_false (by omega)
  have q4 : decide ((nn : Int) < mm) = false := decide_eq_false (by omega)
  have q5 : decide (nn < mm) = false := decide_eq_false (by omega)
  have q6 : ((mm : Int) == (nn : Int)) = false := by simp; omega
  have hb0 := and_pred hm1 (by omega)
  rw [(isPow_iff hm1 (by omega)).1 hpow] at hb0
  rw [grow_pow nn a mm path hpow hmn, grow_walk nn a a mm path hm1 hmn]
  obtain ⟨res, hres⟩ : ∃ r, wlk frE flE (stripT (mm - 1) (nn - 1)).1 (stripT (mm - 1) (nn - 1)).2 (a, a) path = r := ⟨_, rfl⟩
  have hres2 : wlk (fun s p => (pairF p s.1, pairF p s.2)) (fun s p => (s.1, pairF s.2 p)) (stripT (mm - 1) (nn - 1)).1 (stripT (mm - 1) (nn - 1)).2 (a, a) path = res := hres
  rw [hres2]
  have HRES := hide hres
  have K0 := hide h
  have CL := hide fun W (s : KS .u64 W A path) => cloneK_any A c path W (by omega) s
  have e1 := hide (show ((mm - 1 : Nat) : Int) = (mm : Int) - 1 by omega)
  have e2 := hide (show ((nn - 1 : Nat) : Int) = (nn : Int) - 1 by omega)
  have p1 : (0 : Int) ≤ (mm : Int) - 1 := by omega
  have p2 : (mm : Int) - 1 ≤ 5000 := by omega
  have p3 : (0 : Int) ≤ (nn : Int) - 1 := by omega
  have p4 : (nn : Int) - 1 ≤ 5000 := by omega
  have p5 : ((path.length : Int) + 1 == 0) = false := by simp; omega
  clear hpow h hres hres2
  go_enter Tryz.func37, Tryz.ntmps37
  go_wp2
  go_step3
  go_upto_region 9 with (first
    | (go_at_call 89; with_reducible refine (CL.out _ K0.out).mono ?_; rintro e w2 ⟨v2, rfl, ho, hb⟩; obtain ⟨A2, c2, rfl, hl2, hm2, -⟩ := OwnK.form ho; have BX := hide hb; have HO := hide ho; have hs2 := hb.size; have HLT := hide ho.blk_lt; clear ho hb)
    | (go_at_call 88; with_reducible refine (insertK_any A2 c2 path a w2.heap.size w.heap.size _ (HO.out.below ((Below.refl _ _).alloc (Nat.le_refl _) _)) (by simp; omega) (by omega) (Blk.new _ _ _) ?_).mono ?_))
  · rintro x rfl
    have := HLT.out x rfl
    omega
  rintro e w3 ⟨v3, rfl, ho3, hb3⟩
  obtain ⟨A3, pcap, rfl, hl3, hm3, hk3⟩ := ho3.form
  obtain ⟨pb, po, rfl, -, -⟩ := hk3.at_ (i := 0) (by simp)
  have hpc : path.length + 1 ≤ pcap := hl3
  have BX := hide ((BX.out.alloc hs2 (.cells #[.int .u64 a] 23)).trans hb3)
  have K := hide hk3
  have WW := hide (show W2 (w3.alloc (.cells #[.int .u64 ((mm : Int) - 1), .int .u64 ((nn : Int) - 1)] 147)) w3.heap.size (mm - 1) (nn - 1) by unfold W2; rw [e1.out, e2.out]; exact Blk.new w3 147 #[.int .u64 ((mm : Int) - 1), .int .u64 ((nn : Int) - 1)])
  have BW := hide ((Below.refl w3.heap.size w3).alloc (Nat.le_refl _) (.cells #[.int .u64 ((mm : Int) - 1), .int .u64 ((nn : Int) - 1)] 147))
  clear ho3 hb3 hk3 HO HLT K0 CL hl3
  go_wp2_with fail
  go_loopw [] (fun wr => ∃ a' b' : Nat, W2 wr w3.heap.size a' b' ∧ a' < 10000 ∧ stripT a' b' = stripT (mm - 1) (nn - 1) ∧ Below w3.heap.size w3 wr) (fun wr => cellN wr w3.heap.size)
  case atStart => exact ⟨mm - 1, nn - 1, WW.out, by omega, rfl, BW.out⟩
  case round =>
    clear WW BW
    obtain ⟨a', b', hw, ha', hst, hb⟩ := hrel
    have c0' : wr.cell? ⟨w3.heap.size, 0, none⟩ = some (.int .u64 a') := hw.cell 0
    have c1' : wr.cell? ⟨w3.heap.size, 1, none⟩ = some (.int .u64 b') := hw.cell 1
    have hbit := and1 a' ha'
    have HW := hide hw
    have HB := hide hb
    clear hw hb
    by_cases ho : a' % 2 = 1
    · rw [ho] at hbit
      have HS2 := hide (hst ▸ (stripT_odd (b := b') ho).symm : stripT (a' / 2) (b' / 2) = stripT (mm - 1) (nn - 1))
      have HU := hide fun W (hh : W2 W w3.heap.size a' b') => up_any w3.heap.size a' b' false W hh ha'
      have hpos : a' / 2 < a' := by omega
      clear hst ho
      go_wp2_with (go_at_call 90; refine (HU.out _ HW.out).mono ?_; rintro e w5 ⟨⟨_, rfl⟩, hw5, hg5⟩; have HB5 := hide (HB.out.grown hg5 HB.out.size (fun g hg => by injection hg with hg; omega)); have HW5 := hide hw5; clear hw5 hg5)
      go_roundw
      case rel => exact ⟨a' / 2, b' / 2, HW5.out, by omega, HS2.out, HB5.out⟩
      case measure => rw [cellN_eq HW.out, cellN_eq HW5.out]; exact hpos
    · rw [show a' % 2 = 0 by omega] at hbit
      rw [stripT_even (by omega)] at hst
      rw [← hst] at HRES
      have HRES := hide (show wlk frE flE a' b' (a, a) path = res from HRES.out)
      rename World => wo
      have hw1 : IntKind.i64.wrap 1 = 1 := IntWalk.i64_in _ (by omega)
      have hw3 : (1 : Int) ≤ (path.length : Int) + 1 := by omega
      rcases Decidable.em (pcap = 1) with hp1 | hp1
      all_goals
        obtain ⟨pb', po', hA, hbl, hc⟩ := (K.out.then_ HB.out).at_ (i := 0) (by simp)
        injection hA with hA
        injection hA with hA1 hA2
        subst hA1 hA2
        have c2' := hc 0 (by simp)
        rw [Nat.add_zero, List.getElem_cons_zero] at c2'
        have HC := hide hc
        clear hst ho hc
        go_wp2_with fail
        have n0 := fun x : Fut wo.heap.size wo => (x.cell pb po hbl).trans c2'
        refine wp_region_fut wo.heap.size (by kernel_rfl) (by kernel_rfl) ?_
        repeat (go_big_quiet_step ((first | fail)))
        refine wpQuiet_nil ?_
        intro w10 hq'; have hb10 := Fut.of hq'; clear hq'
        go_wp2_with fail
        go_step3
        go_wp2_with fail
        go_loopw [12, 13, 15, 80] (fun u12 u13 _ i wr => ∃ (k a2 b2 : Nat) (xv yv : Int), k ≤ path.length ∧ i = .int .i64 k ∧ u12 = .int .u64 xv ∧ u13 = .int .u64 yv ∧ W2 wr w3.heap.size a2 b2 ∧ a2 < 10000 ∧ wlk frE flE a2 b2 (xv, yv) (path.drop k) = res ∧ Below w3.heap.size w3 wr) (fun _ _ _ i _ => path.length - (intOf i).toNat)
        case atStart => exact ⟨0, a', b', a, a, Nat.zero_le _, rfl, rfl, rfl, HW.out.below hb10 HW.out.lt, ha', HRES.out, HB.out.trans (hb10.mono HB.out.size)⟩
        case round =>
          clear HW HB HRES c0' c1' c2' hbit HC
          obtain ⟨k, a2, b2, xv, yv, hk, rfl, rfl, rfl, hw2, ha2, hwlk, hb2⟩ := hrel
          have c0' : wr.cell? ⟨w3.heap.size, 0, none⟩ = some (.int .u64 a2) := hw2.cell 0
          have c1' : wr.cell? ⟨w3.heap.size, 1, none⟩ = some (.int .u64 b2) := hw2.cell 1
          have HB := hide hb2
          by_cases hlt : k < path.length
          · first
            | (exfalso; omega)
            | (have hc1 : ¬ pcap = 1 := by omega
               obtain ⟨pb', po', hA, hbl2, hc⟩ := (K.out.then_ HB.out).at_ (i := k + 1) (by simp; omega)
               injection hA with hA
               injection hA with hA1 hA2
               subst hA1 hA2
               have c2' := hc (k + 1) (by simp; omega)
               rw [List.getElem_cons_succ, show po + (k + 1) = po + 1 + k by omega] at c2'
               rw [List.drop_eq_getElem_cons hlt] at hwlk
               obtain ⟨p, hpp⟩ : ∃ p, p = path[k] := ⟨_, rfl⟩
               rw [← hpp] at c2' hwlk
               have HW := hide hw2
               clear hc hpp hb2 hw2
               by_cases hz : b2 = 0
               · subst hz
                 rw [wlk_end] at hwlk
                 subst hwlk
                 go_wp2
                 repeat (rw [Exit.noGoto_ret])
                 go_ret
                 exact ⟨rfl, BX.out.trans (HB.out.mono BX.out.size)⟩
               · have qz : ((b2 : Int) == 0) = false := by simp; omega
                 rw [wlk_cons, if_neg hz] at hwlk
                 have HR := hide fun W (hh : W2 W w3.heap.size a2 b2) => right_any w3.heap.size a2 b2 W hh ha2
                 cases hr : isR a2 b2
                 · rw [hr] at HR hwlk
                   rw [if_neg (by simp)] at hwlk
                   have HL := hide hwlk
                   have HU := hide fun W (hh : W2 W w3.heap.size a2 b2) => up_any w3.heap.size a2 b2 false W hh ha2
                   clear hwlk hr
                   go_wp2_with (first
                                   | (go_at_call 91; refine (HR.out _ HW.out).mono ?_; rintro e w23 ⟨rfl, hb⟩; have HW := hide (HW.out.below hb HW.out.lt); have HB := hide (HB.out.trans (hb.mono HB.out.size)); clear hb)
                                   | (go_at_call 92; refine (pair_any _ _ _).mono ?_; rintro e w24 ⟨rfl, hb⟩; have HW := hide (HW.out.below hb HW.out.lt); have HB := hide (HB.out.trans (hb.mono HB.out.size)); clear hb)
                                   | (go_at_call 90; refine (HU.out _ HW.out).mono ?_; rintro e w25 ⟨⟨_, rfl⟩, hw5, hg5⟩; have HB5 := hide (HB.out.grown hg5 HB.out.size (fun g hg => by injection hg with hg; omega)); have HW5 := hide hw5; clear hw5 hg5))
                   go_roundw
                   case rel => exact ⟨k + 1, a2 / 2, b2 / 2, xv, pairF yv p, by omega, by go_num, rfl, rfl, HW5.out, by omega, HL.out, HB5.out⟩
                   case measure => simp [intOf]; omega
                 · rw [hr] at HR hwlk
                   rw [if_pos rfl] at hwlk
                   have HL := hide hwlk
                   have HU := hide fun W (hh : W2 W w3.heap.size a2 b2) => up_any w3.heap.size a2 b2 true W hh ha2
                   have hle := upT_le a2 a2 b2 (Nat.le_refl _)
                   clear hwlk hr
                   go_wp2_with (first
                                   | (go_at_call 91; refine (HR.out _ HW.out).mono ?_; rintro e w23 ⟨rfl, hb⟩; have HW := hide (HW.out.below hb HW.out.lt); have HB := hide (HB.out.trans (hb.mono HB.out.size)); clear hb)
                                   | (go_at_call 92; refine (pair_any _ _ _).mono ?_; rintro e w24 ⟨rfl, hb⟩; have HW := hide (HW.out.below hb HW.out.lt); have HB := hide (HB.out.trans (hb.mono HB.out.size)); clear hb)
                                   | (go_at_call 90; refine (HU.out _ HW.out).mono ?_; rintro e w25 ⟨⟨_, rfl⟩, hw5, hg5⟩; have HB5 := hide (HB.out.grown hg5 HB.out.size (fun g hg => by injection hg with hg; omega)); have HW5 := hide hw5; clear hw5 hg5))
                   go_roundw
                   case rel => exact ⟨k + 1, (upT a2 b2).1, (upT a2 b2).2, pairF p xv, pairF p yv, by omega, by go_num, rfl, rfl, HW5.out, by omega, HL.out, HB5.out⟩
                   case measure => simp [intOf]; omega)
          · have hd : path.drop k = [] := List.drop_eq_nil_of_le (by omega)
            rw [hd] at hwlk
            clear hw2 hb2
            by_cases hz : b2 = 0
            · subst hz
              rw [wlk_nil0] at hwlk
              subst hwlk
              have HE := hide (show decide (some (xv, yv) = some (a, b)) = ((xv == a) && (yv == b)) by rw [Bool.eq_iff_iff]; simp)
              have HF := hide (BX.out.trans (HB.out.mono BX.out.size))
              cases hq : (xv == a)
              · go_wp2
                repeat (rw [Exit.noGoto_ret])
                go_ret
                exact ⟨by rw [HE.out, hq]; rfl, HF.out⟩
              · go_wp2
                repeat (rw [Exit.noGoto_ret])
                go_ret
                exact ⟨by rw [HE.out, hq]; rfl, HF.out⟩
            · have qz : ((b2 : Int) == 0) = false := by simp; omega
              rw [wlk_nil hz] at hwlk
              subst hwlk
              have HF := hide (BX.out.trans (HB.out.mono BX.out.size))
              go_wp2
              repeat (rw [Exit.noGoto_ret])
              go_ret
              exact ⟨rfl, HF.out⟩
theorem growO_other {a : Int} {m n : Nat} {path : List Int} (h1 : 1 ≤ m) (hp : ¬isPow m) (hm : m < n) : growO pairF a m n true path = growO pairF a m n false path := by
 unfold growO; rw [grow_other n a a m path h1 hp hm]
theorem ext_odd (a b : Int) (mm nn : Nat) (A : Option Addr) (c0 : Int) (ps : List Int) (pcap : Nat) (w : World) (hp : ps.length ≤ 1000) (hpc : ps.length + 1 ≤ pcap) (hm1 : 1 ≤ mm) (hmn : mm < nn) (hn : nn ≤ 4096) (hpow : ¬isPow mm) (h : KS .u64 w A (c0 :: ps)) :
    Calls Tryz.prog 37 #[.int .u64 a, .int .u64 b, .int .i64 (mm : Int), .int .i64 (nn : Int), .slice A (ps.length + 1) pcap] w fun e w' => e = .returned (.bool (decide (growO pairF a mm nn true (c0 :: ps) = some (a, b)))) ∧ Below w.heap.size w w' := by
  have q1 : decide ((nn : Int) < 1) = false := decide_eq_false (by omega)
  have q2 : decide (4096 < (nn : Int)) = false := decide_eq_false (by omega)
  have q3 : decide ((mm : Int) < 1) = false := decide_eq_false (by omega)
  have q4 : decide ((nn : Int) < mm) = false := decide_eq_false (by omega)
  have q5 : decide (nn < mm) = false := decide_eq_false (by omega)
  have q6 : ((mm : Int) == (nn : Int)) = false := by simp; omega
  have hb0 := and_pred hm1 (by omega)
  have hz0 : ¬(mm &&& (mm - 1) = 0) := fun e => hpow ((isPow_iff hm1 (by omega)).2 e)
  obtain ⟨z, hz⟩ : ∃ z, z = mm &&& (mm - 1) := ⟨_, rfl⟩
  rw [← hz] at hb0 hz0
  have q7 : ((z : Int) == 0) = false := by simp; omega
  rw [growO_other hm1 hpow hmn, grow_walk nn a c0 mm ps hm1 hmn]
  obtain ⟨res, hres⟩ : ∃ r, wlk frE flE (stripT (mm - 1) (nn - 1)).1 (stripT (mm - 1) (nn - 1)).2 (c0, c0) ps = r := ⟨_, rfl⟩
  have hres2 : wlk (fun s p => (pairF p s.1, pairF p s.2)) (fun s p => (s.1, pairF s.2 p)) (stripT (mm - 1) (nn - 1)).1 (stripT (mm - 1) (nn - 1)).2 (c0, c0) ps = res := hres
  rw [hres2]
  obtain ⟨pb, po, rfl, -, -⟩ := h.at_ (i := 0) (by simp)
  have HRES := hide hres
  have K := hide h
  have e1 := hide (show ((mm - 1 : Nat) : Int) = (mm : Int) - 1 by omega)
  have e2 := hide (show ((nn - 1 : Nat) : Int) = (nn : Int) - 1 by omega)
  have p1 : (0 : Int) ≤ (mm : Int) - 1 := by omega
  have p2 : (mm : Int) - 1 ≤ 5000 := by omega
  have p3 : (0 : Int) ≤ (nn : Int) - 1 := by omega
  have p4 : (nn : Int) - 1 ≤ 5000 := by omega
  have p5 : ((ps.length : Int) + 1 == 0) = false := by simp; omega
  have BX := hide (Below.refl w.heap.size w)
  have WW := hide (show W2 (w.alloc (.cells #[.int .u64 ((mm : Int) - 1), .int .u64 ((nn : Int) - 1)] 147)) w.heap.size (mm - 1) (nn - 1) by unfold W2; rw [e1.out, e2.out]; exact Blk.new w 147 #[.int .u64 ((mm : Int) - 1), .int .u64 ((nn : Int) - 1)])
  have BW := hide ((Below.refl w.heap.size w).alloc (Nat.le_refl _) (.cells #[.int .u64 ((mm : Int) - 1), .int .u64 ((nn : Int) - 1)] 147))
  clear hpow h hres hres2 hz
  go_enter Tryz.func37, Tryz.ntmps37
  go_wp2
  go_step3
  go_wp2_with fail
  go_loopw [] (fun wr => ∃ a' b' : Nat, W2 wr w.heap.size a' b' ∧ a' < 10000 ∧ stripT a' b' = stripT (mm - 1) (nn - 1) ∧ Below w.heap.size w wr) (fun wr => cellN wr w.heap.size)
  case atStart => exact ⟨mm - 1, nn - 1, WW.out, by omega, rfl, BW.out⟩
  case round =>
    clear WW BW
    obtain ⟨a', b', hw, ha', hst, hb⟩ := hrel
    have c0' : wr.cell? ⟨w.heap.size, 0, none⟩ = some (.int .u64 a') := hw.cell 0
    have c1' : wr.cell? ⟨w.heap.size, 1, none⟩ = some (.int .u64 b') := hw.cell 1
    have hbit := and1 a' ha'
    have HW := hide hw
    have HB := hide hb
    clear hw hb
    by_cases ho : a' % 2 = 1
    · rw [ho] at hbit
      have HS2 := hide (hst ▸ (stripT_odd (b := b') ho).symm : stripT (a' / 2) (b' / 2) = stripT (mm - 1) (nn - 1))
      have HU := hide fun W (hh : W2 W w.heap.size a' b') => up_any w.heap.size a' b' false W hh ha'
      have hpos : a' / 2 < a' := by omega
      clear hst ho
      go_wp2_with (go_at_call 90; refine (HU.out _ HW.out).mono ?_; rintro e w5 ⟨⟨_, rfl⟩, hw5, hg5⟩; have HB5 := hide (HB.out.grown hg5 HB.out.size (fun g hg => by injection hg with hg; omega)); have HW5 := hide hw5; clear hw5 hg5)
      go_roundw
      case rel => exact ⟨a' / 2, b' / 2, HW5.out, by omega, HS2.out, HB5.out⟩
      case measure => rw [cellN_eq HW.out, cellN_eq HW5.out]; exact hpos
    · rw [show a' % 2 = 0 by omega] at hbit
      rw [stripT_even (by omega)] at hst
      rw [← hst] at HRES
      have HRES := hide (show wlk frE flE a' b' (c0, c0) ps = res from HRES.out)
      rename World => wo
      have hw1 : IntKind.i64.wrap 1 = 1 := IntWalk.i64_in _ (by omega)
      have hw3 : (1 : Int) ≤ (ps.length : Int) + 1 := by omega
      rcases Decidable.em (pcap = 1) with hp1 | hp1
      all_goals
        obtain ⟨pb', po', hA, hbl, hc⟩ := (K.out.then_ HB.out).at_ (i := 0) (by simp)
        injection hA with hA
        injection hA with hA1 hA2
        subst hA1 hA2
        have c2' := hc 0 (by simp)
        rw [Nat.add_zero, List.getElem_cons_zero] at c2'
        have HC := hide hc
        clear hst ho hc
        go_wp2_with fail
        have n0 := fun x : Fut wo.heap.size wo => (x.cell pb po hbl).trans c2'
        refine wp_region_fut wo.heap.size (by kernel_rfl) (by kernel_rfl) ?_
        repeat (go_big_quiet_step ((first | fail)))
        refine wpQuiet_nil ?_
        intro w10 hq'; have hb10 := Fut.of hq'; clear hq'
        go_wp2_with fail
        go_step3
        go_wp2_with fail
        go_loopw [12, 13, 15, 80] (fun u12 u13 _ i wr => ∃ (k a2 b2 : Nat) (xv yv : Int), k ≤ ps.length ∧ i = .int .i64 k ∧ u12 = .int .u64 xv ∧ u13 = .int .u64 yv ∧ W2 wr w.heap.size a2 b2 ∧ a2 < 10000 ∧ wlk frE flE a2 b2 (xv, yv) (ps.drop k) = res ∧ Below w.heap.size w wr) (fun _ _ _ i _ => ps.length - (intOf i).toNat)
        case atStart => exact ⟨0, a', b', c0, c0, Nat.zero_le _, rfl, rfl, rfl, HW.out.below hb10 HW.out.lt, ha', HRES.out, HB.out.trans (hb10.mono HB.out.size)⟩
        case round =>
          clear HW HB HRES c0' c1' c2' hbit HC
          obtain ⟨k, a2, b2, xv, yv, hk, rfl, rfl, rfl, hw2, ha2, hwlk, hb2⟩ := hrel
          have c0' : wr.cell? ⟨w.heap.size, 0, none⟩ = some (.int .u64 a2) := hw2.cell 0
          have c1' : wr.cell? ⟨w.heap.size, 1, none⟩ = some (.int .u64 b2) := hw2.cell 1
          have HB := hide hb2
          by_cases hlt : k < ps.length
          · first
            | (exfalso; omega)
            | (have hc1 : ¬ pcap = 1 := by omega
               obtain ⟨pb', po', hA, hbl2, hc⟩ := (K.out.then_ HB.out).at_ (i := k + 1) (by simp; omega)
               injection hA with hA
               injection hA with hA1 hA2
               subst hA1 hA2
               have c2' := hc (k + 1) (by simp; omega)
               rw [List.getElem_cons_succ, show po + (k + 1) = po + 1 + k by omega] at c2'
               rw [List.drop_eq_getElem_cons hlt] at hwlk
               obtain ⟨p, hpp⟩ : ∃ p, p = ps[k] := ⟨_, rfl⟩
               rw [← hpp] at c2' hwlk
               have HW := hide hw2
               clear hc hpp hb2 hw2
               by_cases hz : b2 = 0
               · subst hz
                 rw [wlk_end] at hwlk
                 subst hwlk
                 go_wp2
                 repeat (rw [Exit.noGoto_ret])
                 go_ret
                 exact ⟨rfl, BX.out.trans (HB.out.mono BX.out.size)⟩
               · have qz : ((b2 : Int) == 0) = false := by simp; omega
                 rw [wlk_cons, if_neg hz] at hwlk
                 have HR := hide fun W (hh : W2 W w.heap.size a2 b2) => right_any w.heap.size a2 b2 W hh ha2
                 cases hr : isR a2 b2
                 · rw [hr] at HR hwlk
                   rw [if_neg (by simp)] at hwlk
                   have HL := hide hwlk
                   have HU := hide fun W (hh : W2 W w.heap.size a2 b2) => up_any w.heap.size a2 b2 false W hh ha2
                   clear hwlk hr
                   go_wp2_with (first
                                   | (go_at_call 91; refine (HR.out _ HW.out).mono ?_; rintro e w23 ⟨rfl, hb⟩; have HW := hide (HW.out.below hb HW.out.lt); have HB := hide (HB.out.trans (hb.mono HB.out.size)); clear hb)
                                   | (go_at_call 92; refine (pair_any _ _ _).mono ?_; rintro e w24 ⟨rfl, hb⟩; have HW := hide (HW.out.below hb HW.out.lt); have HB := hide (HB.out.trans (hb.mono HB.out.size)); clear hb)
                                   | (go_at_call 90; refine (HU.out _ HW.out).mono ?_; rintro e w25 ⟨⟨_, rfl⟩, hw5, hg5⟩; have HB5 := hide (HB.out.grown hg5 HB.out.size (fun g hg => by injection hg with hg; omega)); have HW5 := hide hw5; clear hw5 hg5))
                   go_roundw
                   case rel => exact ⟨k + 1, a2 / 2, b2 / 2, xv, pairF yv p, by omega, by go_num, rfl, rfl, HW5.out, by omega, HL.out, HB5.out⟩
                   case measure => simp [intOf]; omega
                 · rw [hr] at HR hwlk
                   rw [if_pos rfl] at hwlk
                   have HL := hide hwlk
                   have HU := hide fun W (hh : W2 W w.heap.size a2 b2) => up_any w.heap.size a2 b2 true W hh ha2
                   have hle := upT_le a2 a2 b2 (Nat.le_refl _)
                   clear hwlk hr
                   go_wp2_with (first
                                   | (go_at_call 91; refine (HR.out _ HW.out).mono ?_; rintro e w23 ⟨rfl, hb⟩; have HW := hide (HW.out.below hb HW.out.lt); have HB := hide (HB.out.trans (hb.mono HB.out.size)); clear hb)
                                   | (go_at_call 92; refine (pair_any _ _ _).mono ?_; rintro e w24 ⟨rfl, hb⟩; have HW := hide (HW.out.below hb HW.out.lt); have HB := hide (HB.out.trans (hb.mono HB.out.size)); clear hb)
                                   | (go_at_call 90; refine (HU.out _ HW.out).mono ?_; rintro e w25 ⟨⟨_, rfl⟩, hw5, hg5⟩; have HB5 := hide (HB.out.grown hg5 HB.out.size (fun g hg => by injection hg with hg; omega)); have HW5 := hide hw5; clear hw5 hg5))
                   go_roundw
                   case rel => exact ⟨k + 1, (upT a2 b2).1, (upT a2 b2).2, pairF p xv, pairF p yv, by omega, by go_num, rfl, rfl, HW5.out, by omega, HL.out, HB5.out⟩
                   case measure => simp [intOf]; omega)
          · have hd : ps.drop k = [] := List.drop_eq_nil_of_le (by omega)
            rw [hd] at hwlk
            clear hw2 hb2
            by_cases hz : b2 = 0
            · subst hz
              rw [wlk_nil0] at hwlk
              subst hwlk
              have HE := hide (show decide (some (xv, yv) = some (a, b)) = ((xv == a) && (yv == b)) by rw [Bool.eq_iff_iff]; simp)
              have HF := hide (BX.out.trans (HB.out.mono BX.out.size))
              cases hq : (xv == a)
              · go_wp2
                repeat (rw [Exit.noGoto_ret])
                go_ret
                exact ⟨by rw [HE.out, hq]; rfl, HF.out⟩
              · go_wp2
                repeat (rw [Exit.noGoto_ret])
                go_ret
                exact ⟨by rw [HE.out, hq]; rfl, HF.out⟩
            · have qz : ((b2 : Int) == 0) = false := by simp; omega
              rw [wlk_nil hz] at hwlk
              subst hwlk
              have HF := hide (BX.out.trans (HB.out.mono BX.out.size))
              go_wp2
              repeat (rw [Exit.noGoto_ret])
              go_ret
              exact ⟨rfl, HF.out⟩
theorem ext_none (a b : Int) (mm nn : Nat) (A : Option Addr) (pcap : Nat) (w : World) (hm1 : 1 ≤ mm) (hmn : mm < nn) (hn : nn ≤ 4096) (hpow : ¬isPow mm) :
  Calls Tryz.prog 37 #[.int .u64 a, .int .u64 b, .int .i64 (mm : Int), .int .i64 (nn : Int), .slice A 0 pcap] w fun e w' => e = .returned (.bool false) ∧ Below w.heap.size w w' := by
 have q1 : decide ((nn : Int) < 1) = false := decide_eq_false (by omega); have q2 : decide (4096 < (nn : Int)) = false := decide_eq_false (by omega); have q3 : decide ((mm : Int) < 1) = false := decide_eq_false (by omega); have q4 : decide ((nn : Int) < mm) = false := decide_eq_false (by omega); have q5 : decide (nn < mm) = false := decide_eq_false (by omega); have q6 : ((mm : Int) == (nn : Int)) = false := by simp; omega
 have hb0 := and_pred hm1 (by omega); have hz0 : ¬(mm &&& (mm - 1) = 0) := fun e => hpow ((isPow_iff hm1 (by omega)).2 e)
 obtain ⟨z, hz⟩ : ∃ z, z = mm &&& (mm - 1) := ⟨_, rfl⟩; rw [← hz] at hb0 hz0; have q7 : ((z : Int) == 0) = false := by simp; omega
 have p1 : (0 : Int) ≤ (mm : Int) - 1 := by omega
 have p2 : (mm : Int) - 1 ≤ 5000 := by omega
 clear hpow hz
 go_enter Tryz.func37, Tryz.ntmps37
 go_wp2
 go_step3
 go_wp2
 repeat (rw [Exit.noGoto_ret])
 go_ret
 exact ⟨rfl, Below.refl _ _⟩
theorem ext_same (a b : Int) (nn : Nat) (A : Option Addr) (n c : Nat) (w : World) (hn1 : 1 ≤ nn) (hn : nn ≤ 4096) :
  Calls Tryz.prog 37 #[.int .u64 a, .int .u64 b, .int .i64 (nn : Int), .int .i64 (nn : Int), .slice A n c] w fun e w' => e = .returned (.bool (decide (n = 0) && (a == b))) ∧ Below w.heap.size w w' := by
 have q1 : decide ((nn : Int) < 1) = false := decide_eq_false (by omega); have q2 : decide (4096 < (nn : Int)) = false := decide_eq_false (by omega)
 by_cases h0 : n = 0
 ·subst h0; rw [decide_eq_true rfl, Bool.true_and]
  go_enter Tryz.func37, Tryz.ntmps37
  go_wp2
  go_step3
  go_wp2
  repeat (rw [Exit.noGoto_ret])
  go_ret
  exact ⟨rfl, Below.refl _ _⟩
 ·rw [decide_eq_false h0, Bool.false_and]; have q0 : ((n : Int) == 0) = false := by simp; omega
  clear h0
  go_enter Tryz.func37, Tryz.ntmps37
  go_wp2
  go_step3
  go_wp2
  repeat (rw [Exit.noGoto_ret])
  go_ret
  exact ⟨rfl, Below.refl _ _⟩
theorem Extended_any (a b m n : Int) (A : Option Addr) (c : Nat) (path : List Int) (w : World) (hp : path.length ≤ 1000) (hc : path.length ≤ c) (h : KS .u64 w A path) :
  Calls Tryz.prog 37 #[.int .u64 a, .int .u64 b, .int .i64 m, .int .i64 n, .slice A path.length c] w fun e w' => e = .returned (.bool (growS a b m n path)) ∧ Below w.heap.size w w' := by
 by_cases hbad : n < 1 ∨ 4096 < n ∨ m < 1 ∨ n < m
 ·have hr : growS a b m n path = false := if_pos hbad; rw [hr]; have hcase : decide (n < 1) = true ∨ decide (n < 1) = false ∧ decide (4096 < n) = true ∨ decide (n < 1) = false ∧ decide (4096 < n) = false ∧ decide (m < 1) = true ∨ decide (n < 1) = false ∧ decide (4096 < n) = false ∧ decide (m < 1) = false ∧ decide (n < m) = true := by
   simp only [decide_eq_true_eq, decide_eq_false_iff_not]; omega
  clear hr hbad; rcases hcase with q1 | ⟨q1, q2⟩ | ⟨q1, q2, q3⟩ | ⟨q1, q2, q3, q4⟩
  all_goals
   go_enter Tryz.func37, Tryz.ntmps37
   go_wp2
   go_step3
   go_wp2
   repeat (rw [Exit.noGoto_ret])
   go_ret
   exact ⟨rfl, Below.refl _ _⟩
 ·obtain ⟨mm, rfl⟩ : ∃ j : Nat, m = j := ⟨m.toNat, by omega⟩; obtain ⟨nn, rfl⟩ : ∃ j : Nat, n = j := ⟨n.toNat, by omega⟩; have hr : growS a b mm nn path = decide (growO pairF a mm nn true path = some (a, b)) := if_neg hbad; rw [hr]
  by_cases he : mm = nn
  ·subst he; have := ext_same a b mm A path.length c w (by omega) (by omega); rw [growO_mark]; have e : decide ((if path = [] then some (a, a) else none) = some (a, b)) = (decide (path.length = 0) && (a == b)) := by
    rw [Bool.eq_iff_iff]; cases path <;> simp
   rw [e]; exact this
  ·by_cases hpow : isPow mm
   ·exact ext_pow a b mm nn A c path w hp (by omega) (by omega) (by omega) hpow h
   ·cases path with
    | nil =>
     have := ext_none a b mm nn A c w (by omega) (by omega) (by omega) hpow; rw [growO_nil (by omega)]; exact this
    | cons c0 ps =>
     exact ext_odd a b mm nn A c0 ps c w (by simp at hp; omega) (by simpa using hc) (by omega) (by omega) (by omega) hpow h
theorem fl_u64 (l : List Int) : l.flatMap c_u64 = l.map (Value.int .u64) := by induction l with | nil => rfl | cons x l ih => rw [List.flatMap_cons, ih]; rfl
theorem fl_i64 (l : List Int) : l.flatMap c_i64 = l.map (Value.int .i64) := by induction l with | nil => rfl | cons x l ih => rw [List.flatMap_cons, ih]; rfl
theorem RowS.ks {S : Nat → Prop} {w : World} {A : Option Addr} {l : List Int} (h : RowS S w A (l.flatMap c_u64)) : KS .u64 w A l := by have := h.r; rwa [fl_u64] at this
theorem RowS.ki {S : Nat → Prop} {w : World} {A : Option Addr} {l : List Int} (h : RowS S w A (l.flatMap c_i64)) : KS .i64 w A l := by have := h.r; rwa [fl_i64] at this
theorem row_fresh {S : Nat → Prop} {w w' : World} {A : Option Addr} {l : List Int} (h : KS .u64 w' A l) (hf : FrA w A) : RowS (ext S w w') w' A (l.flatMap c_u64) := by
 rw [fl_u64]; refine ⟨h, fun hn => ?_⟩; obtain ⟨b, o, e, hb, _⟩ := h hn; exact ⟨b, o, e, .inr ⟨hf b o e, hb⟩⟩
theorem octL_len (n : Int) : (octL n).length = 8 := rfl
def okI (l : List Int) : Bool := decide (inI l ∧ l.length ≤ 100000)
def intsF (l : List Int) : Int := sumB (textL l)
def nextF (d : Int) (l : List Int) : Int := sumB (octL d ++ textL l)
def Gad : Nat → (List Int) → Option Int
 | 0, _ => none
 | _ + 1, l => whenG (okI l) (intsF l)
theorem ks_low {S0 : Nat → Prop} {w0 : World} {A : Option Addr} {l : List Int} (hS : ∀ g, S0 g → g < w0.heap.size) (h : RowS S0 w0 A (l.flatMap c_i64)) : ∀ W, Below w0.heap.size w0 W → KS .i64 W A l := fun W hW => (h.to (fun _ h => h) (Ag.below hW hS)).ki
theorem g_digest_Ints (F : Nat) (A : Option Addr) (c : Nat) (l : List Int) (S0 : Nat → Prop) (w0 : World) (hS : ∀ g, S0 g → g < w0.heap.size) (hT : Tb w0) (h : RowS S0 w0 A (l.flatMap c_i64)) (hc : l.length ≤ c) (r : Int) (hG : Gad F l = some r) :
  Calls Tryz.prog 123 #[.slice A l.length c] w0 fun e w' => e = .returned (.int .u64 r) ∧ Below w0.heap.size w0 w' := by
 cases F with
 | zero => cases hG
 | succ F =>
 obtain ⟨h1, rfl⟩ := whenG_some hG; obtain ⟨h2, h3⟩ := of_decide_eq_true h1; have hlen := textL_len h2; have T1 := hide (text_any w0.heap.size 0 (.slice none 0 0) [] l A c w0 w0 hT (Below.refl _ _) (Nat.le_refl _) (Nat.le_refl _) OwnK.nil (by simp) (ks_low hS h) h2 h3); have HS := hide fun A c l W hn s => sum_any A c l W hn s
 clear hG h1 h hS hT
 go_enter Tryz.func123, Tryz.ntmps123
 go_wp2_with (first
  | (go_at_call 155; refine T1.out.mono ?_; rintro e w3 ⟨v3, rfl, ho3, hb3⟩; obtain ⟨A3, c3, rfl, hl3, hm3, hk3⟩ := ho3.form; have B3 := hide hb3; have K3 := hide hk3; clear ho3 hb3 hk3)
  | (go_at_call 134; refine (HS.out A3 c3 _ _ (by simp; omega) K3.out).mono ?_; rintro e w4 ⟨rfl, rfl⟩))
 go_ret
 exact ⟨rfl, B3.out⟩
def Gau : Nat → Int → (List Int) → Option Int
 | 0, _, _ => none
 | _ + 1, d, l => whenG (decide (inI l ∧ l.length ≤ 10000 ∧ 1 ≤ l.length)) (nextF d l)
theorem g_digest_Next (F : Nat) (n : Int) (A : Option Addr) (c : Nat) (l : List Int) (S0 : Nat → Prop) (w0 : World) (hS : ∀ g, S0 g → g < w0.heap.size) (hT : Tb w0) (h : RowS S0 w0 A (l.flatMap c_i64)) (hc : l.length ≤ c) (r : Int) (hG : Gau F n l = some r) :
  Calls Tryz.prog 151 #[.int .u64 n, .slice A l.length c] w0 fun e w' => e = .returned (.int .u64 r) ∧ Below w0.heap.size w0 w' := by
 cases F with
 | zero => cases hG
 | succ F =>
 obtain ⟨h1, rfl⟩ := whenG_some hG; obtain ⟨h2, h3, h4⟩ := of_decide_eq_true h1; have hlen := textL_len h2; obtain ⟨L, hL⟩ : ∃ L, L = octL n ++ textL l := ⟨_, rfl⟩; have hLl : L.length ≤ 9223372036854775807 := by rw [hL, List.length_append, octL_len]; omega
 have hR : nextF n l = sumB L := by rw [hL]; rfl
 rw [hR]; have T1 : Hid (∀ (W w : World), Below w0.heap.size w0 W → Below W.heap.size W w → ∀ A', KS .u8 w A' (octL n) → Calls Tryz.prog 155 #[.slice A' 8 8, .slice A l.length c] w fun e w' => ∃ v', e = .returned v' ∧ OwnK .u8 5 w' w.heap.size v' L ∧ Below w.heap.size w w') := by
  refine hide fun W w hW hb A' hk => ?_
  rw [hL]; exact text_f A' 8 (octL n) l A c w0 w hT (hW.trans (hb.mono hW.size)) (by simp [octL]) (by omega) hk (fun W' hW' => ks_low hS h W' ((hW.trans (hb.mono hW.size)).trans (hW'.mono (Nat.le_trans hW.size hb.size)))) h2 h3 h4
 have HS := hide fun A c W s => sum_any A c L W hLl s
 clear hG h1 h hS hT hlen h2 hL hLl hR h3 h4
 go_enter Tryz.func151, Tryz.ntmps151
 go_wp2_with (first
  | (go_at_call 133; refine (octets_any n _).mono ?_; rintro e w2 ⟨rfl, hb2⟩; have hs2 := hb2.size; have H2 := hide hb2; have B2 := hide (hb2.alloc hs2 (.cells (octRow n 8) 181)); have K2 := hide (ks_oct (Blk.new w2 181 (octRow n 8))); have I2 := hide ((Below.refl w2.heap.size w2).alloc (Nat.le_refl _) (.cells (octRow n 8) 181)); clear hb2; simp only [octRow, Nat.reduceLT, if_true] at B2 K2 I2 ⊢)
  | (go_at_call 155; with_reducible refine (T1.out w2 _ H2.out I2.out _ K2.out).mono ?_; rintro e w3 ⟨v3, rfl, ho3, hb3⟩; obtain ⟨A3, c3, rfl, hl3, hm3, hk3⟩ := ho3.form; have B3 := hide (B2.out.trans (hb3.mono B2.out.size)); have K3 := hide hk3; clear ho3 hb3 hk3)
  | (go_at_call 134; with_reducible refine (HS.out A3 c3 _ K3.out).mono ?_; rintro e w4 ⟨rfl, rfl⟩))
 go_ret
 exact ⟨rfl, B3.out⟩
end Go.Proofs.YtggaodokkcoagaaGreatDoor
namespace Go.Proofs.YtggaodokkcoagaaGreatDoor
open Go.RowKit Go.Maps
def G6 : Nat → Int → Option ((List UInt8))
 | 0, _ => none
 | F + 1, p_0 =>
 ifB (decide (p_0 < 0))
  (ifB (((IntKind.i64.wrap (Int.tdiv p_0 10)) == 0))
   (Option.bind (apS ([45] : List UInt8) ([UInt8.ofNat (Int.toNat (IntKind.u8.wrap (IntKind.i64.wrap (48 - p_0))))] : List UInt8)) (fun v_4 =>
   some v_4))
   (Option.bind (Option.bind (G6 F (IntKind.i64.wrap (Int.tdiv p_0 10))) (fun v_6 =>
    Option.bind (apS v_6 ([UInt8.ofNat (Int.toNat (IntKind.u8.wrap (IntKind.i64.wrap (48 - (Int.tmod p_0 10)))))] : List UInt8)) (fun v_8 =>
    some v_8)) : Option ((List UInt8))) (fun (v_19 : (List UInt8)) =>
    some v_19)))
  (ifB (decide (p_0 < 10))
   (some ([UInt8.ofNat (Int.toNat (IntKind.u8.wrap (IntKind.i64.wrap (48 + p_0))))] : List UInt8))
   (Option.bind (Option.bind (G6 F (IntKind.i64.wrap (Int.tdiv p_0 10))) (fun v_25 =>
    Option.bind (apS v_25 ([UInt8.ofNat (Int.toNat (IntKind.u8.wrap (IntKind.i64.wrap (48 + (Int.tmod p_0 10)))))] : List UInt8)) (fun v_27 =>
    some v_27)) : Option ((List UInt8))) (fun (v_38 : (List UInt8)) =>
    some v_38)))
theorem g_regulatorref03_Decimal : ∀ (F : Nat) (p_0 : Int) (S0 : Nat → Prop) (w0 : World) (hS : ∀ g, S0 g → g < w0.heap.size) (hT : Tb w0)  (r : (List UInt8)) (hG : G6 F p_0 = some r),
  Calls Tryz.prog 156 #[.int .i64 p_0] w0 fun e w' => e = .returned (.string ⟨List.toArray r⟩) ∧ Below w0.heap.size w0 w' := by
 intro F
 induction F with
 | zero => intros; rename_i hG; cases hG
 | succ F ih =>
 intro p_0 S0 w0 hS hT  r hG; refine vc_enter (n := 41) Tryz.func156 rfl rfl rfl (fun a hK => ?_); replace hK := hK.weak (K' := [(0, .int .i64 p_0)]) ⟨rfl, trivial⟩; have hE := Es.start hS; unfold G6 at hG; refine wp_seq ?_; refine wp_region_lit ?_; refine o0 2 (.string ⟨List.toArray ([] : List UInt8)⟩) hK rfl (fun _ => by kernel_rfl) rfl rfl rfl ?_; clear hK a; intro a hK; refine wpList_nil ?_; refine xt_norm ?_; refine wp_seq ?_; refine wp_seq ?_; refine wp_region_lit ?_; refine o0 3 (.int .i64 p_0) hK rfl (fun _ => by kernel_rfl) rfl rfl rfl ?_; clear hK a; intro a hK; refine o0 4 (.bool (decide (p_0 < 0))) hK rfl (fun _ => by kernel_rfl) rfl rfl rfl ?_; clear hK a; intro a hK; refine wpList_nil ?_; refine xt_norm ?_; rcases ifB_cases hG with ⟨h_1, hG⟩ | ⟨h_1, hG⟩
 ·replace hK := hK.sub (d := 4) (v' := .bool true) rfl (congrArg Value.bool h_1); refine vc_cond (t := true) hK (fun _ => rfl) ?_; rw [if_pos rfl]; refine wp_seq ?_; refine wp_seq ?_; refine wp_region_lit ?_; refine o0 5 (.int .i64 p_0) hK rfl (fun _ => by kernel_rfl) rfl rfl rfl ?_; clear hK a; intro a hK; refine st_run (d := 6) (v' := .int .i64 (IntKind.i64.wrap (Int.tdiv p_0 10))) hK rfl (ex_int rfl (fun _ => rfl) (fun _ => rfl) (by kernel_rfl) (fun W => run_quo (by decide) W)) rfl rfl rfl ?_; clear hK a; intro a hK; refine o0 7 (.bool ((IntKind.i64.wrap (Int.tdiv p_0 10)) == 0)) hK rfl (fun _ => by kernel_rfl) rfl rfl rfl ?_; clear hK a; intro a hK; refine wpList_nil ?_; refine xt_norm ?_; rcases ifB_cases hG with ⟨h_2, hG⟩ | ⟨h_2, hG⟩
  ·replace hK := hK.sub (d := 7) (v' := .bool true) rfl (congrArg Value.bool h_2); refine vc_cond (t := true) hK (fun _ => rfl) ?_; rw [if_pos rfl]; refine wp_seq ?_; obtain ⟨v_4, hy_4, hG⟩ := bind_some hG; refine wp_region_lit ?_; refine o0 8 (.int .i64 p_0) hK rfl (fun _ => by kernel_rfl) rfl rfl rfl ?_; clear hK a; intro a hK; refine oN 2 (fun K => (10, .int .u8 (IntKind.u8.wrap (IntKind.i64.wrap (48 - p_0)))) :: (9, .int .i64 (IntKind.i64.wrap (48 - p_0))) :: K) hK (fun _ => by kernel_rfl) ?_; clear hK a; intro a hK; refine sq_new (d := 11) (v := fun g => .slice (some ⟨g, 0, none⟩) 1 1) (cs := #[.int .u8 (IntKind.u8.wrap (IntKind.i64.wrap (48 - p_0)))]) (t := 5) hK hE rfl (fun _ _ => by kernel_rfl) rfl rfl ?_; clear hK hE a; intro a g_3 w_5 hK hE; refine st_op (d := 12) (v' := .string ⟨List.toArray ([UInt8.ofNat (Int.toNat (IntKind.u8.wrap (IntKind.i64.wrap (48 - p_0))))] : List UInt8)⟩) (vs := [.int .u8 (IntKind.u8.wrap (IntKind.i64.wrap (48 - p_0)))]) (obs := [(⟨g_3, 0, none⟩, .int .u8 (IntKind.u8.wrap (IntKind.i64.wrap (48 - p_0))))]) hK rfl (fun _ => by kernel_rfl) ⟨((hE.blk 0 rfl).cell 0).trans rfl, trivial⟩ rfl rfl rfl ?_; clear hK a; intro a hK; refine st_run (d := 13) (v' := .string ⟨List.toArray v_4⟩) hK rfl (ex_eq rfl (fun _ => rfl) (fun _ => rfl) (by kernel_rfl) (fun W => run_str_add hy_4 W)) rfl rfl rfl ?_; clear hK a; intro a hK; refine o0 2 (.string ⟨List.toArray v_4⟩) hK rfl (fun _ => by kernel_rfl) rfl rfl rfl ?_; clear hK a; intro a hK; refine wpList_nil ?_; refine xt_norm ?_; refine wp_ret ?_; refine xt_ret ?_; refine xt_ret ?_; refine vc_ret (v' := .string ⟨List.toArray v_4⟩) (vs := []) (obs := []) hK (fun _ => by kernel_rfl) trivial rfl ?_; obtain rfl := Option.some.inj hG; exact ⟨rfl, hE.b⟩
  ·replace hK := hK.sub (d := 7) (v' := .bool false) rfl (congrArg Value.bool h_2); refine vc_cond (t := false) hK (fun _ => rfl) ?_; rw [if_neg (by simp)]; refine wp_skip ?_; refine xt_norm ?_; obtain ⟨o_18, hA_18, hG_18⟩ := bind_some hG; replace hG := hA_18; clear hA_18; refine seq_join1 (fun a w_ => ∃ (v_19 : List UInt8), ∃ S_, Kn 41 [(2, .string ⟨List.toArray v_19⟩)] a ∧ Es S0 w0 w_ S_ [] ∧ v_19 = o_18) ?_ ?_
   ·obtain ⟨v_6, hy_6, hG⟩ := bind_some hG; obtain ⟨v_8, hy_8, hG⟩ := bind_some hG; replace hE := hE.drew; refine rh_begin (S0 := S0) (w0 := w0) [] rfl ?_; generalize w0.drew = w_9 at hE ⊢; refine rh_take (i := 0) (d := 14) (v' := .int .i64 p_0) (vs := []) (obs := []) #[true, false, false, false, false, false, false, false, false, false, false] (by kernel_rfl) hK ⟨_, hE.sel [] rfl rfl⟩ rfl (by kernel_rfl) (by kernel_rfl) (by kernel_rfl) (by kernel_rfl) (fun _ _ _ h => h) (fun _ => by kernel_rfl) (fun _ _ _ => trivial) rfl rfl rfl ?_; clear hK a; intro a hK; refine rh_run (i := 1) (d := 15) (v' := .int .i64 (IntKind.i64.wrap (Int.tdiv p_0 10))) #[true, true, false, false, false, false, false, false, false, false, false] (by kernel_rfl) hK ⟨_, hE.sel [] rfl rfl⟩ rfl (by kernel_rfl) (by kernel_rfl) (by kernel_rfl) (by kernel_rfl) (fun _ _ _ h => h) (ex_int rfl (fun _ => rfl) (fun _ => rfl) (by kernel_rfl) (fun W => run_quo (by decide) W)) rfl rfl rfl ?_; clear hK a; intro a hK; refine rh_take (i := 3) (d := 17) (v' := .int .i64 p_0) (vs := []) (obs := []) #[true, true, false, true, false, false, false, false, false, false, false] (by kernel_rfl) hK ⟨_, hE.sel [] rfl rfl⟩ rfl (by kernel_rfl) (by kernel_rfl) (by kernel_rfl) (by kernel_rfl) (fun _ _ _ h => h) (fun _ => by kernel_rfl) (fun _ _ _ => trivial) rfl rfl rfl ?_; clear hK a; intro a hK; refine rh_run (i := 4) (d := 18) (v' := .int .i64 (Int.tmod p_0 10)) #[true, true, false, true, true, false, false, false, false, false, false] (by kernel_rfl) hK ⟨_, hE.sel [] rfl rfl⟩ rfl (by kernel_rfl) (by kernel_rfl) (by kernel_rfl) (by kernel_rfl) (fun _ _ _ h => h) (ex_int rfl (fun _ => rfl) (fun _ => rfl) (by kernel_rfl) (fun W => run_rem (by decide) W)) rfl rfl rfl ?_; clear hK a; intro a hK; refine rh_take (i := 5) (d := 19) (v' := .int .i64 (IntKind.i64.wrap (48 - (Int.tmod p_0 10)))) (vs := []) (obs := []) #[true, true, false, true, true, true, false, false, false, false, false] (by kernel_rfl) hK ⟨_, hE.sel [] rfl rfl⟩ rfl (by kernel_rfl) (by kernel_rfl) (by kernel_rfl) (by kernel_rfl) (fun _ _ _ h => h) (fun _ => by kernel_rfl) (fun _ _ _ => trivial) rfl rfl rfl ?_; clear hK a; intro a hK; refine rh_take (i := 6) (d := 20) (v' := .int .u8 (IntKind.u8.wrap (IntKind.i64.wrap (48 - (Int.tmod p_0 10))))) (vs := []) (obs := []) #[true, true, false, true, true, true, true, false, false, false, false] (by kernel_rfl) hK ⟨_, hE.sel [] rfl rfl⟩ rfl (by kernel_rfl) (by kernel_rfl) (by kernel_rfl) (by kernel_rfl) (fun _ _ _ h => h) (fun _ => by kernel_rfl) (fun _ _ _ => trivial) rfl rfl rfl ?_; clear hK a; intro a hK; refine rh_all [2, 7] (by kernel_rfl) (by simp) ⟨?_, ?_, trivial⟩
    ·refine rh_call (d := 16) (f := 156) (args := #[.int .i64 (IntKind.i64.wrap (Int.tdiv p_0 10))]) rfl hK rfl (fun _ => by kernel_rfl) rfl rfl (ih (IntKind.i64.wrap (Int.tdiv p_0 10)) (fun g => g < _) _ (fun _ h => h) (hT.to hE.b)  _ hy_6) ?_; rintro e w_10 ⟨rfl, hb⟩; replace hE := hE.call hb; obtain ⟨S_11, hE⟩ : ∃ S, Es _ _ _ S _ := ⟨_, hE⟩; clear hb; refine ⟨_, rfl, ⟨_, hE.sel [] rfl rfl⟩, ?_⟩; clear hK a; intro a hK; refine rh_all [7] (by kernel_rfl) (by simp) ⟨?_, trivial⟩; refine rh_new (d := 21) (v := fun g => .slice (some ⟨g, 0, none⟩) 1 1) (cs := #[.int .u8 (IntKind.u8.wrap (IntKind.i64.wrap (48 - (Int.tmod p_0 10))))]) (t := 5) rfl hK hE rfl (fun _ _ => by kernel_rfl) rfl rfl ?_; clear hK hE a; intro a g_7 w_12 hK hE; refine ⟨⟨_, hE.sel [] rfl rfl⟩, ?_⟩; refine rh_all [8] (by kernel_rfl) (by simp) ⟨?_, trivial⟩; refine rh_op (d := 22) (v' := .string ⟨List.toArray ([UInt8.ofNat (Int.toNat (IntKind.u8.wrap (IntKind.i64.wrap (48 - (Int.tmod p_0 10)))))] : List UInt8)⟩) (vs := [.int .u8 (IntKind.u8.wrap (IntKind.i64.wrap (48 - (Int.tmod p_0 10))))]) (obs := [(⟨g_7, 0, none⟩, .int .u8 (IntKind.u8.wrap (IntKind.i64.wrap (48 - (Int.tmod p_0 10)))))]) rfl hK ⟨_, hE.sel [] rfl rfl⟩ rfl (fun _ => by kernel_rfl) ⟨((hE.blk 0 rfl).cell 0).trans rfl, trivial⟩ rfl rfl rfl ?_; clear hK a; intro a hK; refine rh_run (i := 9) (d := 23) (v' := .string ⟨List.toArray v_8⟩) #[true, true, true, true, true, true, true, true, true, true, false] (by kernel_rfl) hK ⟨_, hE.sel [] rfl rfl⟩ rfl (by kernel_rfl) (by kernel_rfl) (by kernel_rfl) (by kernel_rfl) (fun _ _ _ h => h) (ex_eq rfl (fun _ => rfl) (fun _ => rfl) (by kernel_rfl) (fun W => run_str_add hy_8 W)) rfl rfl rfl ?_; clear hK a; intro a hK; refine rh_take (i := 10) (d := 2) (v' := .string ⟨List.toArray v_8⟩) (vs := []) (obs := []) #[true, true, true, true, true, true, true, true, true, true, true] (by kernel_rfl) hK ⟨_, hE.sel [] rfl rfl⟩ rfl (by kernel_rfl) (by kernel_rfl) (by kernel_rfl) (by kernel_rfl) (fun _ _ _ h => h) (fun _ => by kernel_rfl) (fun _ _ _ => trivial) rfl rfl rfl ?_; clear hK a; intro a hK; refine wpAnyH_done (by kernel_rfl) ?_ _; refine xt_norm ?_; exact ⟨v_8, _, hK.weak ⟨rfl, trivial⟩, hE.sel [] rfl rfl, Option.some.inj hG⟩
    ·refine rh_new (d := 21) (v := fun g => .slice (some ⟨g, 0, none⟩) 1 1) (cs := #[.int .u8 (IntKind.u8.wrap (IntKind.i64.wrap (48 - (Int.tmod p_0 10))))]) (t := 5) rfl hK hE rfl (fun _ _ => by kernel_rfl) rfl rfl ?_; clear hK hE a; intro a g_7 w_13 hK hE; refine ⟨⟨_, hE.sel [] rfl rfl⟩, ?_⟩; refine rh_all [2, 8] (by kernel_rfl) (by simp) ⟨?_, ?_, trivial⟩
     ·refine rh_call (d := 16) (f := 156) (args := #[.int .i64 (IntKind.i64.wrap (Int.tdiv p_0 10))]) rfl hK rfl (fun _ => by kernel_rfl) rfl rfl (ih (IntKind.i64.wrap (Int.tdiv p_0 10)) (fun g => g < _) _ (fun _ h => h) (hT.to hE.b)  _ hy_6) ?_; rintro e w_14 ⟨rfl, hb⟩; replace hE := hE.call hb; obtain ⟨S_15, hE⟩ : ∃ S, Es _ _ _ S _ := ⟨_, hE⟩; clear hb; refine ⟨_, rfl, ⟨_, hE.sel [] rfl rfl⟩, ?_⟩; clear hK a; intro a hK; refine rh_all [8] (by kernel_rfl) (by simp) ⟨?_, trivial⟩; refine rh_op (d := 22) (v' := .string ⟨List.toArray ([UInt8.ofNat (Int.toNat (IntKind.u8.wrap (IntKind.i64.wrap (48 - (Int.tmod p_0 10)))))] : List UInt8)⟩) (vs := [.int .u8 (IntKind.u8.wrap (IntKind.i64.wrap (48 - (Int.tmod p_0 10))))]) (obs := [(⟨g_7, 0, none⟩, .int .u8 (IntKind.u8.wrap (IntKind.i64.wrap (48 - (Int.tmod p_0 10)))))]) rfl hK ⟨_, hE.sel [] rfl rfl⟩ rfl (fun _ => by kernel_rfl) ⟨((hE.blk 0 rfl).cell 0).trans rfl, trivial⟩ rfl rfl rfl ?_; clear hK a; intro a hK; refine rh_run (i := 9) (d := 23) (v' := .string ⟨List.toArray v_8⟩) #[true, true, true, true, true, true, true, true, true, true, false] (by kernel_rfl) hK ⟨_, hE.sel [] rfl rfl⟩ rfl (by kernel_rfl) (by kernel_rfl) (by kernel_rfl) (by kernel_rfl) (fun _ _ _ h => h) (ex_eq rfl (fun _ => rfl) (fun _ => rfl) (by kernel_rfl) (fun W => run_str_add hy_8 W)) rfl rfl rfl ?_; clear hK a; intro a hK; refine rh_take (i := 10) (d := 2) (v' := .string ⟨List.toArray v_8⟩) (vs := []) (obs := []) #[true, true, true, true, true, true, true, true, true, true, true] (by kernel_rfl) hK ⟨_, hE.sel [] rfl rfl⟩ rfl (by kernel_rfl) (by kernel_rfl) (by kernel_rfl) (by kernel_rfl) (fun _ _ _ h => h) (fun _ => by kernel_rfl) (fun _ _ _ => trivial) rfl rfl rfl ?_; clear hK a; intro a hK; refine wpAnyH_done (by kernel_rfl) ?_ _; refine xt_norm ?_; exact ⟨v_8, _, hK.weak ⟨rfl, trivial⟩, hE.sel [] rfl rfl, Option.some.inj hG⟩
     ·refine rh_op (d := 22) (v' := .string ⟨List.toArray ([UInt8.ofNat (Int.toNat (IntKind.u8.wrap (IntKind.i64.wrap (48 - (Int.tmod p_0 10)))))] : List UInt8)⟩) (vs := [.int .u8 (IntKind.u8.wrap (IntKind.i64.wrap (48 - (Int.tmod p_0 10))))]) (obs := [(⟨g_7, 0, none⟩, .int .u8 (IntKind.u8.wrap (IntKind.i64.wrap (48 - (Int.tmod p_0 10)))))]) rfl hK ⟨_, hE.sel [] rfl rfl⟩ rfl (fun _ => by kernel_rfl) ⟨((hE.blk 0 rfl).cell 0).trans rfl, trivial⟩ rfl rfl rfl ?_; clear hK a; intro a hK; refine rh_all [2] (by kernel_rfl) (by simp) ⟨?_, trivial⟩; refine rh_call (d := 16) (f := 156) (args := #[.int .i64 (IntKind.i64.wrap (Int.tdiv p_0 10))]) rfl hK rfl (fun _ => by kernel_rfl) rfl rfl (ih (IntKind.i64.wrap (Int.tdiv p_0 10)) (fun g => g < _) _ (fun _ h => h) (hT.to hE.b)  _ hy_6) ?_; rintro e w_16 ⟨rfl, hb⟩; replace hE := hE.call hb; obtain ⟨S_17, hE⟩ : ∃ S, Es _ _ _ S _ := ⟨_, hE⟩; clear hb; refine ⟨_, rfl, ⟨_, hE.sel [] rfl rfl⟩, ?_⟩; clear hK a; intro a hK; refine rh_run (i := 9) (d := 23) (v' := .string ⟨List.toArray v_8⟩) #[true, true, true, true, true, true, true, true, true, true, false] (by kernel_rfl) hK ⟨_, hE.sel [] rfl rfl⟩ rfl (by kernel_rfl) (by kernel_rfl) (by kernel_rfl) (by kernel_rfl) (fun _ _ _ h => h) (ex_eq rfl (fun _ => rfl) (fun _ => rfl) (by kernel_rfl) (fun W => run_str_add hy_8 W)) rfl rfl rfl ?_; clear hK a; intro a hK; refine rh_take (i := 10) (d := 2) (v' := .string ⟨List.toArray v_8⟩) (vs := []) (obs := []) #[true, true, true, true, true, true, true, true, true, true, true] (by kernel_rfl) hK ⟨_, hE.sel [] rfl rfl⟩ rfl (by kernel_rfl) (by kernel_rfl) (by kernel_rfl) (by kernel_rfl) (fun _ _ _ h => h) (fun _ => by kernel_rfl) (fun _ _ _ => trivial) rfl rfl rfl ?_; clear hK a; intro a hK; refine wpAnyH_done (by kernel_rfl) ?_ _; refine xt_norm ?_; exact ⟨v_8, _, hK.weak ⟨rfl, trivial⟩, hE.sel [] rfl rfl, Option.some.inj hG⟩
   ·clear hK hE a; rintro a w_20 ⟨v_19, S_21, hK, hE, ho_⟩; subst ho_; replace hG := hG_18; clear hG_18; refine wp_ret ?_; refine xt_ret ?_; refine vc_ret (v' := .string ⟨List.toArray v_19⟩) (vs := []) (obs := []) hK (fun _ => by kernel_rfl) trivial rfl ?_; obtain rfl := Option.some.inj hG; exact ⟨rfl, hE.b⟩
 ·replace hK := hK.sub (d := 4) (v' := .bool false) rfl (congrArg Value.bool h_1); refine vc_cond (t := false) hK (fun _ => rfl) ?_; rw [if_neg (by simp)]; refine wp_skip ?_; refine xt_norm ?_; refine wp_seq ?_; refine wp_seq ?_; refine wp_region_lit ?_; refine o0 24 (.int .i64 p_0) hK rfl (fun _ => by kernel_rfl) rfl rfl rfl ?_; clear hK a; intro a hK; refine o0 25 (.bool (decide (p_0 < 10))) hK rfl (fun _ => by kernel_rfl) rfl rfl rfl ?_; clear hK a; intro a hK; refine wpList_nil ?_; refine xt_norm ?_; rcases ifB_cases hG with ⟨h_22, hG⟩ | ⟨h_22, hG⟩
  ·replace hK := hK.sub (d := 25) (v' := .bool true) rfl (congrArg Value.bool h_22); refine vc_cond (t := true) hK (fun _ => rfl) ?_; rw [if_pos rfl]; refine wp_seq ?_; refine wp_region_lit ?_; refine o0 26 (.int .i64 p_0) hK rfl (fun _ => by kernel_rfl) rfl rfl rfl ?_; clear hK a; intro a hK; refine oN 2 (fun K => (28, .int .u8 (IntKind.u8.wrap (IntKind.i64.wrap (48 + p_0)))) :: (27, .int .i64 (IntKind.i64.wrap (48 + p_0))) :: K) hK (fun _ => by kernel_rfl) ?_; clear hK a; intro a hK; refine sq_new (d := 29) (v := fun g => .slice (some ⟨g, 0, none⟩) 1 1) (cs := #[.int .u8 (IntKind.u8.wrap (IntKind.i64.wrap (48 + p_0)))]) (t := 5) hK hE rfl (fun _ _ => by kernel_rfl) rfl rfl ?_; clear hK hE a; intro a g_23 w_24 hK hE; refine st_op (d := 30) (v' := .string ⟨List.toArray ([UInt8.ofNat (Int.toNat (IntKind.u8.wrap (IntKind.i64.wrap (48 + p_0))))] : List UInt8)⟩) (vs := [.int .u8 (IntKind.u8.wrap (IntKind.i64.wrap (48 + p_0)))]) (obs := [(⟨g_23, 0, none⟩, .int .u8 (IntKind.u8.wrap (IntKind.i64.wrap (48 + p_0))))]) hK rfl (fun _ => by kernel_rfl) ⟨((hE.blk 0 rfl).cell 0).trans rfl, trivial⟩ rfl rfl rfl ?_; clear hK a; intro a hK; refine st_op (d := 2) (v' := .string ⟨List.toArray ([UInt8.ofNat (Int.toNat (IntKind.u8.wrap (IntKind.i64.wrap (48 + p_0))))] : List UInt8)⟩) (vs := []) (obs := []) hK rfl (fun _ => by kernel_rfl) trivial rfl rfl rfl ?_; clear hK a; intro a hK; refine wpList_nil ?_; refine xt_norm ?_; refine wp_ret ?_; refine xt_ret ?_; refine vc_ret (v' := .string ⟨List.toArray ([UInt8.ofNat (Int.toNat (IntKind.u8.wrap (IntKind.i64.wrap (48 + p_0))))] : List UInt8)⟩) (vs := []) (obs := []) hK (fun _ => by kernel_rfl) trivial rfl ?_; obtain rfl := Option.some.inj hG; exact ⟨rfl, hE.b⟩
  ·replace hK := hK.sub (d := 25) (v' := .bool false) rfl (congrArg Value.bool h_22); refine vc_cond (t := false) hK (fun _ => rfl) ?_; rw [if_neg (by simp)]; refine wp_skip ?_; refine xt_norm ?_; obtain ⟨o_37, hA_37, hG_37⟩ := bind_some hG; replace hG := hA_37; clear hA_37; refine seq_join1 (fun a w_ => ∃ (v_38 : List UInt8), ∃ S_, Kn 41 [(2, .string ⟨List.toArray v_38⟩)] a ∧ Es S0 w0 w_ S_ [] ∧ v_38 = o_37) ?_ ?_
   ·obtain ⟨v_25, hy_25, hG⟩ := bind_some hG; obtain ⟨v_27, hy_27, hG⟩ := bind_some hG; replace hE := hE.drew; refine rh_begin (S0 := S0) (w0 := w0) [] rfl ?_; generalize w0.drew = w_28 at hE ⊢; refine rh_take (i := 0) (d := 31) (v' := .int .i64 p_0) (vs := []) (obs := []) #[true, false, false, false, false, false, false, false, false, false, false] (by kernel_rfl) hK ⟨_, hE.sel [] rfl rfl⟩ rfl (by kernel_rfl) (by kernel_rfl) (by kernel_rfl) (by kernel_rfl) (fun _ _ _ h => h) (fun _ => by kernel_rfl) (fun _ _ _ => trivial) rfl rfl rfl ?_; clear hK a; intro a hK; refine rh_run (i := 1) (d := 32) (v' := .int .i64 (IntKind.i64.wrap (Int.tdiv p_0 10))) #[true, true, false, false, false, false, false, false, false, false, false] (by kernel_rfl) hK ⟨_, hE.sel [] rfl rfl⟩ rfl (by kernel_rfl) (by kernel_rfl) (by kernel_rfl) (by kernel_rfl) (fun _ _ _ h => h) (ex_int rfl (fun _ => rfl) (fun _ => rfl) (by kernel_rfl) (fun W => run_quo (by decide) W)) rfl rfl rfl ?_; clear hK a; intro a hK; refine rh_take (i := 3) (d := 34) (v' := .int .i64 p_0) (vs := []) (obs := []) #[true, true, false, true, false, false, false, false, false, false, false] (by kernel_rfl) hK ⟨_, hE.sel [] rfl rfl⟩ rfl (by kernel_rfl) (by kernel_rfl) (by kernel_rfl) (by kernel_rfl) (fun _ _ _ h => h) (fun _ => by kernel_rfl) (fun _ _ _ => trivial) rfl rfl rfl ?_; clear hK a; intro a hK; refine rh_run (i := 4) (d := 35) (v' := .int .i64 (Int.tmod p_0 10)) #[true, true, false, true, true, false, false, false, false, false, false] (by kernel_rfl) hK ⟨_, hE.sel [] rfl rfl⟩ rfl (by kernel_rfl) (by kernel_rfl) (by kernel_rfl) (by kernel_rfl) (fun _ _ _ h => h) (ex_int rfl (fun _ => rfl) (fun _ => rfl) (by kernel_rfl) (fun W => run_rem (by decide) W)) rfl rfl rfl ?_; clear hK a; intro a hK; refine rh_take (i := 5) (d := 36) (v' := .int .i64 (IntKind.i64.wrap (48 + (Int.tmod p_0 10)))) (vs := []) (obs := []) #[true, true, false, true, true, true, false, false, false, false, false] (by kernel_rfl) hK ⟨_, hE.sel [] rfl rfl⟩ rfl (by kernel_rfl) (by kernel_rfl) (by kernel_rfl) (by kernel_rfl) (fun _ _ _ h => h) (fun _ => by kernel_rfl) (fun _ _ _ => trivial) rfl rfl rfl ?_; clear hK a; intro a hK; refine rh_take (i := 6) (d := 37) (v' := .int .u8 (IntKind.u8.wrap (IntKind.i64.wrap (48 + (Int.tmod p_0 10))))) (vs := []) (obs := []) #[true, true, false, true, true, true, true, false, false, false, false] (by kernel_rfl) hK ⟨_, hE.sel [] rfl rfl⟩ rfl (by kernel_rfl) (by kernel_rfl) (by kernel_rfl) (by kernel_rfl) (fun _ _ _ h => h) (fun _ => by kernel_rfl) (fun _ _ _ => trivial) rfl rfl rfl ?_; clear hK a; intro a hK; refine rh_all [2, 7] (by kernel_rfl) (by simp) ⟨?_, ?_, trivial⟩
    ·refine rh_call (d := 33) (f := 156) (args := #[.int .i64 (IntKind.i64.wrap (Int.tdiv p_0 10))]) rfl hK rfl (fun _ => by kernel_rfl) rfl rfl (ih (IntKind.i64.wrap (Int.tdiv p_0 10)) (fun g => g < _) _ (fun _ h => h) (hT.to hE.b)  _ hy_25) ?_; rintro e w_29 ⟨rfl, hb⟩; replace hE := hE.call hb; obtain ⟨S_30, hE⟩ : ∃ S, Es _ _ _ S _ := ⟨_, hE⟩; clear hb; refine ⟨_, rfl, ⟨_, hE.sel [] rfl rfl⟩, ?_⟩; clear hK a; intro a hK; refine rh_all [7] (by kernel_rfl) (by simp) ⟨?_, trivial⟩; refine rh_new (d := 38) (v := fun g => .slice (some ⟨g, 0, none⟩) 1 1) (cs := #[.int .u8 (IntKind.u8.wrap (IntKind.i64.wrap (48 + (Int.tmod p_0 10))))]) (t := 5) rfl hK hE rfl (fun _ _ => by kernel_rfl) rfl rfl ?_; clear hK hE a; intro a g_26 w_31 hK hE; refine ⟨⟨_, hE.sel [] rfl rfl⟩, ?_⟩; refine rh_all [8] (by kernel_rfl) (by simp) ⟨?_, trivial⟩; refine rh_op (d := 39) (v' := .string ⟨List.toArray ([UInt8.ofNat (Int.toNat (IntKind.u8.wrap (IntKind.i64.wrap (48 + (Int.tmod p_0 10)))))] : List UInt8)⟩) (vs := [.int .u8 (IntKind.u8.wrap (IntKind.i64.wrap (48 + (Int.tmod p_0 10))))]) (obs := [(⟨g_26, 0, none⟩, .int .u8 (IntKind.u8.wrap (IntKind.i64.wrap (48 + (Int.tmod p_0 10)))))]) rfl hK ⟨_, hE.sel [] rfl rfl⟩ rfl (fun _ => by kernel_rfl) ⟨((hE.blk 0 rfl).cell 0).trans rfl, trivial⟩ rfl rfl rfl ?_; clear hK a; intro a hK; refine rh_run (i := 9) (d := 40) (v' := .string ⟨List.toArray v_27⟩) #[true, true, true, true, true, true, true, true, true, true, false] (by kernel_rfl) hK ⟨_, hE.sel [] rfl rfl⟩ rfl (by kernel_rfl) (by kernel_rfl) (by kernel_rfl) (by kernel_rfl) (fun _ _ _ h => h) (ex_eq rfl (fun _ => rfl) (fun _ => rfl) (by kernel_rfl) (fun W => run_str_add hy_27 W)) rfl rfl rfl ?_; clear hK a; intro a hK; refine rh_take (i := 10) (d := 2) (v' := .string ⟨List.toArray v_27⟩) (vs := []) (obs := []) #[true, true, true, true, true, true, true, true, true, true, true] (by kernel_rfl) hK ⟨_, hE.sel [] rfl rfl⟩ rfl (by kernel_rfl) (by kernel_rfl) (by kernel_rfl) (by kernel_rfl) (fun _ _ _ h => h) (fun _ => by kernel_rfl) (fun _ _ _ => trivial) rfl rfl rfl ?_; clear hK a; intro a hK; refine wpAnyH_done (by kernel_rfl) ?_ _; refine xt_norm ?_; exact ⟨v_27, _, hK.weak ⟨rfl, trivial⟩, hE.sel [] rfl rfl, Option.some.inj hG⟩
    ·refine rh_new (d := 38) (v := fun g => .slice (some ⟨g, 0, none⟩) 1 1) (cs := #[.int .u8 (IntKind.u8.wrap (IntKind.i64.wrap (48 + (Int.tmod p_0 10))))]) (t := 5) rfl hK hE rfl (fun _ _ => by kernel_rfl) rfl rfl ?_; clear hK hE a; intro a g_26 w_32 hK hE; refine ⟨⟨_, hE.sel [] rfl rfl⟩, ?_⟩; refine rh_all [2, 8] (by kernel_rfl) (by simp) ⟨?_, ?_, trivial⟩
     ·refine rh_call (d := 33) (f := 156) (args := #[.int .i64 (IntKind.i64.wrap (Int.tdiv p_0 10))]) rfl hK rfl (fun _ => by kernel_rfl) rfl rfl (ih (IntKind.i64.wrap (Int.tdiv p_0 10)) (fun g => g < _) _ (fun _ h => h) (hT.to hE.b)  _ hy_25) ?_; rintro e w_33 ⟨rfl, hb⟩; replace hE := hE.call hb; obtain ⟨S_34, hE⟩ : ∃ S, Es _ _ _ S _ := ⟨_, hE⟩; clear hb; refine ⟨_, rfl, ⟨_, hE.sel [] rfl rfl⟩, ?_⟩; clear hK a; intro a hK; refine rh_all [8] (by kernel_rfl) (by simp) ⟨?_, trivial⟩; refine rh_op (d := 39) (v' := .string ⟨List.toArray ([UInt8.ofNat (Int.toNat (IntKind.u8.wrap (IntKind.i64.wrap (48 + (Int.tmod p_0 10)))))] : List UInt8)⟩) (vs := [.int .u8 (IntKind.u8.wrap (IntKind.i64.wrap (48 + (Int.tmod p_0 10))))]) (obs := [(⟨g_26, 0, none⟩, .int .u8 (IntKind.u8.wrap (IntKind.i64.wrap (48 + (Int.tmod p_0 10)))))]) rfl hK ⟨_, hE.sel [] rfl rfl⟩ rfl (fun _ => by kernel_rfl) ⟨((hE.blk 0 rfl).cell 0).trans rfl, trivial⟩ rfl rfl rfl ?_; clear hK a; intro a hK; refine rh_run (i := 9) (d := 40) (v' := .string ⟨List.toArray v_27⟩) #[true, true, true, true, true, true, true, true, true, true, false] (by kernel_rfl) hK ⟨_, hE.sel [] rfl rfl⟩ rfl (by kernel_rfl) (by kernel_rfl) (by kernel_rfl) (by kernel_rfl) (fun _ _ _ h => h) (ex_eq rfl (fun _ => rfl) (fun _ => rfl) (by kernel_rfl) (fun W => run_str_add hy_27 W)) rfl rfl rfl ?_; clear hK a; intro a hK; refine rh_take (i := 10) (d := 2) (v' := .string ⟨List.toArray v_27⟩) (vs := []) (obs := []) #[true, true, true, true, true, true, true, true, true, true, true] (by kernel_rfl) hK ⟨_, hE.sel [] rfl rfl⟩ rfl (by kernel_rfl) (by kernel_rfl) (by kernel_rfl) (by kernel_rfl) (fun _ _ _ h => h) (fun _ => by kernel_rfl) (fun _ _ _ => trivial) rfl rfl rfl ?_; clear hK a; intro a hK; refine wpAnyH_done (by kernel_rfl) ?_ _; refine xt_norm ?_; exact ⟨v_27, _, hK.weak ⟨rfl, trivial⟩, hE.sel [] rfl rfl, Option.some.inj hG⟩
     ·refine rh_op (d := 39) (v' := .string ⟨List.toArray ([UInt8.ofNat (Int.toNat (IntKind.u8.wrap (IntKind.i64.wrap (48 + (Int.tmod p_0 10)))))] : List UInt8)⟩) (vs := [.int .u8 (IntKind.u8.wrap (IntKind.i64.wrap (48 + (Int.tmod p_0 10))))]) (obs := [(⟨g_26, 0, none⟩, .int .u8 (IntKind.u8.wrap (IntKind.i64.wrap (48 + (Int.tmod p_0 10)))))]) rfl hK ⟨_, hE.sel [] rfl rfl⟩ rfl (fun _ => by kernel_rfl) ⟨((hE.blk 0 rfl).cell 0).trans rfl, trivial⟩ rfl rfl rfl ?_; clear hK a; intro a hK; refine rh_all [2] (by kernel_rfl) (by simp) ⟨?_, trivial⟩; refine rh_call (d := 33) (f := 156) (args := #[.int .i64 (IntKind.i64.wrap (Int.tdiv p_0 10))]) rfl hK rfl (fun _ => by kernel_rfl) rfl rfl (ih (IntKind.i64.wrap (Int.tdiv p_0 10)) (fun g => g < _) _ (fun _ h => h) (hT.to hE.b)  _ hy_25) ?_; rintro e w_35 ⟨rfl, hb⟩; replace hE := hE.call hb; obtain ⟨S_36, hE⟩ : ∃ S, Es _ _ _ S _ := ⟨_, hE⟩; clear hb; refine ⟨_, rfl, ⟨_, hE.sel [] rfl rfl⟩, ?_⟩; clear hK a; intro a hK; refine rh_run (i := 9) (d := 40) (v' := .string ⟨List.toArray v_27⟩) #[true, true, true, true, true, true, true, true, true, true, false] (by kernel_rfl) hK ⟨_, hE.sel [] rfl rfl⟩ rfl (by kernel_rfl) (by kernel_rfl) (by kernel_rfl) (by kernel_rfl) (fun _ _ _ h => h) (ex_eq rfl (fun _ => rfl) (fun _ => rfl) (by kernel_rfl) (fun W => run_str_add hy_27 W)) rfl rfl rfl ?_; clear hK a; intro a hK; refine rh_take (i := 10) (d := 2) (v' := .string ⟨List.toArray v_27⟩) (vs := []) (obs := []) #[true, true, true, true, true, true, true, true, true, true, true] (by kernel_rfl) hK ⟨_, hE.sel [] rfl rfl⟩ rfl (by kernel_rfl) (by kernel_rfl) (by kernel_rfl) (by kernel_rfl) (fun _ _ _ h => h) (fun _ => by kernel_rfl) (fun _ _ _ => trivial) rfl rfl rfl ?_; clear hK a; intro a hK; refine wpAnyH_done (by kernel_rfl) ?_ _; refine xt_norm ?_; exact ⟨v_27, _, hK.weak ⟨rfl, trivial⟩, hE.sel [] rfl rfl, Option.some.inj hG⟩
   ·clear hK hE a; rintro a w_39 ⟨v_38, S_40, hK, hE, ho_⟩; subst ho_; replace hG := hG_37; clear hG_37; refine wp_ret ?_; refine vc_ret (v' := .string ⟨List.toArray v_38⟩) (vs := []) (obs := []) hK (fun _ => by kernel_rfl) trivial rfl ?_; obtain rfl := Option.some.inj hG; exact ⟨rfl, hE.b⟩
end Go.Proofs.YtggaodokkcoagaaGreatDoor
namespace Go.Proofs.YtggaodokkcoagaaGreatDoor
open Go.RowKit
theorem apS_ok {a b : List UInt8} (h : a.length + b.length ≤ 9223372036854775807) : apS a b = some (a ++ b) := if_pos h
theorem dig_small {z : Int} (h0 : 0 ≤ z) (h1 : z < 10) : UInt8.ofNat (Int.toNat (IntKind.u8.wrap (IntKind.i64.wrap (48 + z)))) = UInt8.ofNat (48 + z.toNat) := by
 congr 1
 simp only [IntKind.wrap_i64, IntKind.wrap_u8]; omega
theorem decimal_eq : ∀ (F : Nat) (n : Int), -9223372036854775808 ≤ n → n ≤ 9223372036854775807 → n.natAbs < 10 ^ F → G6 (F + 1) n = some (Lib.itoa n) := by
 intro F
 induction F with
 | zero =>
  intro n h0 h1 h; have : n = 0 := by simp at h; omega
  subst this; rw [itoa_small (by omega) (by omega)]; rfl
 | succ F ih =>
  intro n h0 h1 h; have hp : 10 ^ (F + 1) = 10 * 10 ^ F := by rw [Nat.pow_succ, Nat.mul_comm]
  have len : ∀ z : Int, -9223372036854775808 ≤ z → z ≤ 9223372036854775807 → (Lib.itoa z).length ≤ 21 := fun z a b => by have := numL_len a b; simpa [numL] using this
  unfold G6
  by_cases hn : n < 0
  ·rw [show decide (n < 0) = true from decide_eq_true hn]; have hw : IntKind.i64.wrap (Int.tdiv n 10) = -(-n / 10) := by rw [tdiv_neg (by omega), IntKind.wrap_i64]; omega
   simp only [ifB]; rw [hw]
   by_cases hs : -10 < n
   ·rw [show (-(-n / 10) == 0) = true from beq_iff_eq.2 (by omega)]; simp only []; rw [apS_ok (by simp), itoa_negs hn hs]; simp only [Option.bind, List.cons_append, List.nil_append]
    congr 3
    rw [show (48 - n) = 48 + (-n) by omega, dig_small (by omega) (by omega)]
    congr 1
    congr 1
    omega
   ·rw [show (-(-n / 10) == 0) = false from beq_eq_false_iff_ne.2 (by omega)]; simp only []; rw [ih _ (by omega) (by omega) (by omega)]; simp only [Option.bind]; rw [apS_ok (by have := len (-(-n / 10)) (by omega) (by omega); simp only [List.length_cons, List.length_nil]; omega), itoa_negb (n := n) (by omega)]; simp only; rw [tmod_neg (by omega), show (48 - -(-n % 10)) = 48 + (-n % 10) by omega, dig_small (by omega) (by omega), show (-n % 10).toNat = n.natAbs % 10 by omega]
  ·rw [show decide (n < 0) = false from decide_eq_false hn]; simp only [ifB]
   by_cases hs : n < 10
   ·rw [show decide (n < 10) = true from decide_eq_true hs]; simp only []; rw [dig_small (by omega) hs, itoa_small (by omega) hs]
   ·rw [show decide (n < 10) = false from decide_eq_false hs]; simp only []; have hw : IntKind.i64.wrap (Int.tdiv n 10) = n / 10 := by rw [Int.tdiv_eq_ediv_of_nonneg (by omega), IntKind.wrap_i64]; omega
    rw [hw, ih _ (by omega) (by omega) (by omega)]; simp only [Option.bind]; rw [apS_ok (by have := len (n / 10) (by omega) (by omega); simp only [List.length_cons, List.length_nil]; omega), itoa_big (n := n) (by omega)]; simp only; rw [Int.tmod_eq_emod_of_nonneg (by omega), dig_small (by omega) (by omega), show (n % 10).toNat = n.toNat % 10 by omega]
theorem decimal_any (z : Int) (h0 : -9223372036854775808 ≤ z) (h1 : z ≤ 9223372036854775807) (w0 w : World) (hT : Tb w0) (hb : Below w0.heap.size w0 w) : Calls Tryz.prog 156 #[.int .i64 z] w fun e w' => e = .returned (.string ⟨(Lib.itoa z).toArray⟩) ∧ Below w.heap.size w w' :=
 g_regulatorref03_Decimal 26 z (fun _ => False) w (fun _ h => h.elim) (hT.to hb) _ (decimal_eq 25 z h0 h1 (by omega))
theorem rText_any (zs : List Int) (B : Option Addr) (d : Nat) (w0 w : World) (hT : Tb w0) (hb0 : Below w0.heap.size w0 w) (hz : ∀ W, Below w.heap.size w W → KS .i64 W B zs) (hi : inI zs) (hzl : zs.length ≤ 100000) :
  Calls Tryz.prog 125 #[.slice B zs.length d] w fun e w' => ∃ v, e = .returned v ∧ OwnK .u8 5 w' w.heap.size v (textL zs) ∧ Below w.heap.size w w' := by
 obtain ⟨i0, hi0, hz0, hz1, hz2⟩ := info_parts infoB; have HT := hide hT; have HB0 := hide hb0; have HZ := hide hz; have HI := hide hi; have hsz0 := hb0.size; clear hT hb0 hz hi
 go_enter Tryz.func125, Tryz.ntmps125
 go_wp2
 go_loopw [3, 4] (fun u i wr => ∃ k : Nat, k ≤ zs.length ∧ i = .int .i64 k ∧ OwnK .u8 5 wr w.heap.size u (textL (zs.take k)) ∧ Below w.heap.size w wr) (fun _ i _ => zs.length - (intOf i).toNat)
 case atStart => exact ⟨0, Nat.zero_le _, rfl, by simpa [textL] using OwnK.nil, Below.refl _ _⟩
 case round =>
  obtain ⟨k, hk, rfl, ho, hb⟩ := hrel; have hsz := hb.size
  by_cases hlt : k < zs.length
  ·obtain ⟨b, o, rfl, hbl, hc⟩ := (HZ.out wr hb).at_ (i := k) hlt; have c0 := hc k hlt; have hr := HI.out zs[k] (List.getElem_mem hlt); have HC := hide hc; have hll := textL_len (l := zs.take k) (fun z hz => HI.out z (List.mem_of_mem_take hz)); have hll2 : (textL (zs.take k)).length ≤ 22 * zs.length := Nat.le_trans hll (Nat.mul_le_mul_left _ (by rw [List.length_take]; omega)); have hnl := numL_len hr.1 hr.2; obtain ⟨z, hzk⟩ : ∃ z, z = zs[k] := ⟨_, rfl⟩; rw [← hzk] at c0 hr hnl; have HSN := hide (show textL (zs.take (k + 1)) = textL (zs.take k) ++ numL z ++ [32] by rw [textL_take hlt, ← hzk]); have hr1 := hr.1; have hr2 := hr.2; have HO := hide ho; have HB := hide hb; have DA := hide (decimal_any z hr1 hr2 w0 wr HT.out (HB0.out.trans (hb.mono hsz0))); obtain ⟨L, hL⟩ : ∃ L, L = textL (zs.take k) := ⟨_, rfl⟩; obtain ⟨s, hs⟩ : ∃ s : ByteArray, s = ⟨(Lib.itoa z).toArray⟩ := ⟨_, rfl⟩; have hss : s.size ≤ 21 := by rw [hs]; simpa [ByteArray.size, numL] using hnl
   have hbs : Lib.strCells s = (numL z).map (Value.int .u8) := by rw [hs]; simp [Lib.strCells, numL]
   have hns : s.size = (numL z).length := by rw [hs]; simp [ByteArray.size, numL]
   rw [← hL] at HSN HO hll2; rw [← hs] at DA; have HBS := hide hbs; have HNS := hide hns; clear hc hzk hll hr ho hb hL hs hbs hns
   go_wp2_with (first
    | (go_at_call 156; with_reducible refine DA.out.mono ?_; rintro e w2 ⟨rfl, hb2⟩; have HB2 := hide (HB.out.trans (hb2.mono hsz)); have HO2 := hide (OwnK.below HO.out hb2); have hs2 := hb2.size; clear hb2)
    | (at_builtin; refine Lib.wpList_append_own_string _ rfl _ _ 174 9 rfl w.heap.size 5 i0 Tryz.underlying174 Tryz.underlying9 hi0 hz0 hz1 hz2 _ _ _ rfl HO2.out s rfl (by simp only [maxLen]; omega) (by omega) (by omega) ?_; intro v3 w3 hown3 hgrow3 _; have HO3 := hide (show OwnK .u8 5 w3 w.heap.size v3 (L ++ numL z) from OwnK.app hown3 (by have := HNS.out; simp only [List.length_append]; omega) (by rw [HBS.out])); have HB3 := hide (HB2.out.grown hgrow3 (by omega) (fun g hg => (own_lt HO2.out hg).1)); have hs3 := hgrow3.size; clear hown3 hgrow3)
    | (at_builtin; refine wpList_append_rd _ rfl _ _ 174 rfl w.heap.size 5 i0 _ 1 1 Tryz.underlying174 hi0 hz0 hz1 hz2 rfl (by decide) _ _ _ rfl (own_keep HO3.out (fun g hg => Below.heap_alloc _ _ g (own_lt HO3.out hg).2)) (some ⟨w3.heap.size, 0, none⟩) 1 1 [.int .u8 32] rfl rfl (Rd.new_row _ _ _) (by simp [Value.oneCell']) ?_ ?_ ?_ ?_))
   ·simp only [maxLen, List.length_append]; omega
   ·simp only [List.length_append]; omega
   ·simp; omega
   intro v' w6 hown' hgrow _; have b6 : Below w.heap.size w w6 := (HB3.out.alloc (by omega) _).grown hgrow (by simp; omega) (fun g hg => (own_lt HO3.out hg).1); have hown2 : OwnK .u8 5 w6 w.heap.size v' (textL (zs.take (k + 1))) := by
    rw [HSN.out]; exact OwnK.app (l' := [32]) hown' (by simp only [List.length_append, List.length_cons, List.length_nil]) (by simp)
   have HO6 := hide hown2; have HB6 := hide b6; clear hown' hgrow hown2 b6
   go_wp2
   go_roundw
   case rel => exact ⟨k + 1, by omega, by go_num, HO6.out, HB6.out⟩
   case measure => simp [intOf]; omega
  ·obtain rfl : k = zs.length := by omega
   rw [List.take_length] at ho; have HO6 := hide ho; have HB := hide hb; clear ho hb
   go_wp2
   go_ret
   exact ⟨_, rfl, HO6.out, HB.out⟩
def Gax : Nat → (List Int) → Option Int
 | 0, _ => none
 | _ + 1, l => whenG (okI l) (intsF l)
theorem g_regulatorref03_Ints (F : Nat) (A : Option Addr) (c : Nat) (l : List Int) (S0 : Nat → Prop) (w0 : World) (hS : ∀ g, S0 g → g < w0.heap.size) (hT : Tb w0) (h : RowS S0 w0 A (l.flatMap c_i64)) (hc : l.length ≤ c) (r : Int) (hG : Gax F l = some r) :
  Calls Tryz.prog 75 #[.slice A l.length c] w0 fun e w' => e = .returned (.int .u64 r) ∧ Below w0.heap.size w0 w' := by
 cases F with
 | zero => cases hG
 | succ F =>
 obtain ⟨h1, rfl⟩ := whenG_some hG; obtain ⟨h2, h3⟩ := of_decide_eq_true h1; have hlen := textL_len h2; obtain ⟨L, hL⟩ : ∃ L, L = textL l := ⟨_, rfl⟩; have hLl : L.length ≤ 9223372036854775807 := by rw [hL]; omega
 have hR : intsF l = sumB L := by rw [hL]; rfl
 have T1 := rText_any l A c w0 w0 hT (Below.refl _ _) (ks_low hS h) h2 h3; rw [← hL] at T1; rw [hR]; have T1 := hide T1; have HS := hide fun A c W s => rSum_any A c L W hLl s
 clear hG h1 h hS hT hlen h2 hL hLl hR h3
 go_enter Tryz.func75, Tryz.ntmps75
 go_wp2_with (first
  | (go_at_call 125; with_reducible refine T1.out.mono ?_; rintro e w3 ⟨v3, rfl, ho3, hb3⟩; obtain ⟨A3, c3, rfl, hl3, hm3, hk3⟩ := ho3.form; have B3 := hide hb3; have K3 := hide hk3; clear ho3 hb3 hk3)
  | (go_at_call 124; with_reducible refine (HS.out A3 c3 _ K3.out).mono ?_; rintro e w4 ⟨rfl, rfl⟩))
 go_ret
 exact ⟨rfl, B3.out⟩
def Gat : Nat → (List Int) → Option (Int × Int)
 | 0, _ => none
 | _ + 1, l => some (rootS l)
theorem g_tree_Root (F : Nat) (A : Option Addr) (c : Nat) (l : List Int) (S0 : Nat → Prop) (w0 : World) (hS : ∀ g, S0 g → g < w0.heap.size) (hT : Tb w0) (h : RowS S0 w0 A (l.flatMap c_u64)) (hc : l.length ≤ c) (r : Int × Int) (hG : Gat F l = some r) :
  Calls Tryz.prog 114 #[.slice A l.length c] w0 fun e w' => e = .returned (.tuple #[.int .u64 r.1, .int .i64 r.2]) ∧ Below w0.heap.size w0 w' := by
 cases F with
 | zero => cases hG
 | succ F =>
 obtain rfl := Option.some.inj hG; exact Root_any A c l w0 hc h.ks
def Gaz : Nat → (List Int) → Int → Option (List Int × Int)
 | 0, _, _ => none
 | _ + 1, l, i => some (incS l i)
theorem g_tree_Include (F : Nat) (A : Option Addr) (c : Nat) (l : List Int) (i : Int) (S0 : Nat → Prop) (w0 : World) (hS : ∀ g, S0 g → g < w0.heap.size) (hT : Tb w0) (h : RowS S0 w0 A (l.flatMap c_u64)) (hc : l.length ≤ c) (r : List Int × Int) (hG : Gaz F l i = some r) :
  Calls Tryz.prog 64 #[.slice A l.length c, .int .i64 i] w0 fun e w' => ∃ (q_0_A : Option Addr), ∃ (q_0_c : Nat), ∃ (q_0 : List Int), (r.1 = q_0) ∧ e = .returned (.tuple #[.slice q_0_A q_0.length q_0_c, .int .i64 r.2]) ∧ Below w0.heap.size w0 w' ∧ (RowS (ext S0 w0 w') w' q_0_A (q_0.flatMap c_u64)) ∧ (q_0.length ≤ q_0_c) := by
 cases F with
 | zero => cases hG
 | succ F =>
 obtain rfl := Option.some.inj hG; exact (Include_anyF A c l i w0 hc h.ks).mono fun e w' ⟨A1, c1, h1, h2, _, h4, h5⟩ => ⟨A1, c1, _, rfl, h1, h5, row_fresh h4.1 h4.2, h2⟩
def Gay : Nat → (List Int) → Int → Option (List Int × Int)
 | 0, _, _ => none
 | _ + 1, l, i => some (extS l i)
theorem g_tree_Extend (F : Nat) (A : Option Addr) (c : Nat) (l : List Int) (i : Int) (S0 : Nat → Prop) (w0 : World) (hS : ∀ g, S0 g → g < w0.heap.size) (hT : Tb w0) (h : RowS S0 w0 A (l.flatMap c_u64)) (hc : l.length ≤ c) (r : List Int × Int) (hG : Gay F l i = some r) :
  Calls Tryz.prog 25 #[.slice A l.length c, .int .i64 i] w0 fun e w' => ∃ (q_0_A : Option Addr), ∃ (q_0_c : Nat), ∃ (q_0 : List Int), (r.1 = q_0) ∧ e = .returned (.tuple #[.slice q_0_A q_0.length q_0_c, .int .i64 r.2]) ∧ Below w0.heap.size w0 w' ∧ (RowS (ext S0 w0 w') w' q_0_A (q_0.flatMap c_u64)) ∧ (q_0.length ≤ q_0_c) := by
 cases F with
 | zero => cases hG
 | succ F =>
 obtain rfl := Option.some.inj hG; exact (Extend_anyF A c l i w0 hc h.ks).mono fun e w' ⟨A1, c1, h1, h2, _, h4, h5⟩ => ⟨A1, c1, _, rfl, h1, h5, row_fresh h4.1 h4.2, h2⟩
def Ga0 : Nat → Int → Int → Int → Int → (List Int) → Option Bool
 | 0, _, _, _, _, _ => none
 | _ + 1, root, leaf, i, n, path => whenG (decide (path.length ≤ 9223372036854775807)) (inclS root leaf i n path)
theorem g_tree_Included (F : Nat) (root leaf i n : Int) (A : Option Addr) (c : Nat) (path : List Int) (S0 : Nat → Prop) (w0 : World) (hS : ∀ g, S0 g → g < w0.heap.size) (hT : Tb w0) (h : RowS S0 w0 A (path.flatMap c_u64)) (hc : path.length ≤ c) (r : Bool) (hG : Ga0 F root leaf i n path = some r) :
  Calls Tryz.prog 127 #[.int .u64 root, .int .u64 leaf, .int .i64 i, .int .i64 n, .slice A path.length c] w0 fun e w' => e = .returned (.bool r) ∧ Below w0.heap.size w0 w' := by
 cases F with
 | zero => cases hG
 | succ F =>
 obtain ⟨h1, rfl⟩ := whenG_some hG; exact included_any root leaf i n A c path w0 (of_decide_eq_true h1) h.ks
def Gas : Nat → Int → Int → Int → Int → (List Int) → Option Bool
 | 0, _, _, _, _, _ => none
 | _ + 1, a, b, m, n, path => whenG (decide (path.length ≤ 1000)) (growS a b m n path)
theorem g_tree_Extended (F : Nat) (a b m n : Int) (A : Option Addr) (c : Nat) (path : List Int) (S0 : Nat → Prop) (w0 : World) (hS : ∀ g, S0 g → g < w0.heap.size) (hT : Tb w0) (h : RowS S0 w0 A (path.flatMap c_u64)) (hc : path.length ≤ c) (r : Bool) (hG : Gas F a b m n path = some r) :
  Calls Tryz.prog 37 #[.int .u64 a, .int .u64 b, .int .i64 m, .int .i64 n, .slice A path.length c] w0 fun e w' => e = .returned (.bool r) ∧ Below w0.heap.size w0 w' := by
 cases F with
 | zero => cases hG
 | succ F =>
 obtain ⟨h1, rfl⟩ := whenG_some hG; exact Extended_any a b m n A c path w0 (of_decide_eq_true h1) hc h.ks
end Go.Proofs.YtggaodokkcoagaaGreatDoor
namespace Go.Proofs.YtggaodokkcoagaaGreatDoor
open Go.RowKit Go.Maps
theorem z7 (F : Nat) (p_0_A : Option Addr) (p_0_c : Nat) (p_0 : List Int) (r : Int) (hG : Gad F p_0 = some r) :
  Cf Tryz.prog 123 [.slice p_0_A p_0.length p_0_c] [RowC p_0_A p_0_c c_i64 tr p_0] (U r) := fun S0 w0 hS hT h => g_digest_Ints F p_0_A p_0_c p_0 S0 w0 hS hT h.1.r h.1.c r hG
theorem zal (F : Nat) (p_0 : Int) (p_1_A : Option Addr) (p_1_c : Nat) (p_1 : List Int) (r : Int) (hG : Gau F p_0 p_1 = some r) :
  Cf Tryz.prog 151 [U p_0, .slice p_1_A p_1.length p_1_c] [RowC p_1_A p_1_c c_i64 tr p_1] (U r) := fun S0 w0 hS hT h => g_digest_Next F p_0 p_1_A p_1_c p_1 S0 w0 hS hT h.1.r h.1.c r hG
theorem za1 (F : Nat) (p_0_A : Option Addr) (p_0_c : Nat) (p_0 : List Int) (r : Int) (hG : Gax F p_0 = some r) :
  Cf Tryz.prog 75 [.slice p_0_A p_0.length p_0_c] [RowC p_0_A p_0_c c_i64 tr p_0] (U r) := fun S0 w0 hS hT h => g_regulatorref03_Ints F p_0_A p_0_c p_0 S0 w0 hS hT h.1.r h.1.c r hG
theorem zai (F : Nat) (p_0_A : Option Addr) (p_0_c : Nat) (p_0 : List Int) (r : Int × Int) (hG : Gat F p_0 = some r) :
  Cf Tryz.prog 114 [.slice p_0_A p_0.length p_0_c] [RowC p_0_A p_0_c c_u64 tr p_0] (.tuple #[U r.1, I r.2]) := fun S0 w0 hS hT h => g_tree_Root F p_0_A p_0_c p_0 S0 w0 hS hT h.1.r h.1.c r hG
theorem za5 (F : Nat) (p_0_A : Option Addr) (p_0_c : Nat) (p_0 : List Int) (p_1 : Int) (r : (List Int) × Int) (hG : Gaz F p_0 p_1 = some r) :
  Cn Tryz.prog 64 [.slice p_0_A p_0.length p_0_c, I p_1] [RowC p_0_A p_0_c c_u64 tr p_0] (fun q : Kv => r.1 = q.l) (fun q => .tuple #[.slice q.A q.l.length q.c, I r.2]) (fun q => [RowC q.A q.c c_u64 tr q.l]) := fun S0 w0 hS hT h => (g_tree_Include F p_0_A p_0_c p_0 p_1 S0 w0 hS hT h.1.r h.1.c r hG).mono fun e w' ⟨A, c, l, hq, he, hb, hr, hc⟩ => ⟨⟨A, c, l⟩, hq, he, hb, ⟨hr, hc, fun _ _ => trivial⟩, trivial⟩
theorem za4 (F : Nat) (p_0_A : Option Addr) (p_0_c : Nat) (p_0 : List Int) (p_1 : Int) (r : (List Int) × Int) (hG : Gay F p_0 p_1 = some r) :
  Cn Tryz.prog 25 [.slice p_0_A p_0.length p_0_c, I p_1] [RowC p_0_A p_0_c c_u64 tr p_0] (fun q : Kv => r.1 = q.l) (fun q => .tuple #[.slice q.A q.l.length q.c, I r.2]) (fun q => [RowC q.A q.c c_u64 tr q.l]) := fun S0 w0 hS hT h => (g_tree_Extend F p_0_A p_0_c p_0 p_1 S0 w0 hS hT h.1.r h.1.c r hG).mono fun e w' ⟨A, c, l, hq, he, hb, hr, hc⟩ => ⟨⟨A, c, l⟩, hq, he, hb, ⟨hr, hc, fun _ _ => trivial⟩, trivial⟩
theorem za6 (F : Nat) (p_0 : Int) (p_1 : Int) (p_2 : Int) (p_3 : Int) (p_4_A : Option Addr) (p_4_c : Nat) (p_4 : List Int) (r : Bool) (hG : Ga0 F p_0 p_1 p_2 p_3 p_4 = some r) :
  Cf Tryz.prog 127 [U p_0, U p_1, I p_2, I p_3, .slice p_4_A p_4.length p_4_c] [RowC p_4_A p_4_c c_u64 tr p_4] (B r) := fun S0 w0 hS hT h => g_tree_Included F p_0 p_1 p_2 p_3 p_4_A p_4_c p_4 S0 w0 hS hT h.1.r h.1.c r hG
theorem zah (F : Nat) (p_0 : Int) (p_1 : Int) (p_2 : Int) (p_3 : Int) (p_4_A : Option Addr) (p_4_c : Nat) (p_4 : List Int) (r : Bool) (hG : Gas F p_0 p_1 p_2 p_3 p_4 = some r) :
  Cf Tryz.prog 37 [U p_0, U p_1, I p_2, I p_3, .slice p_4_A p_4.length p_4_c] [RowC p_4_A p_4_c c_u64 tr p_4] (B r) := fun S0 w0 hS hT h => g_tree_Extended F p_0 p_1 p_2 p_3 p_4_A p_4_c p_4 S0 w0 hS hT h.1.r h.1.c r hG
section
variable {S0 S : Nat → Prop} {w0 w w' : World} {n : Nat} {K : List (Nat × Value)} {E : List Iz} {Q : Exit → Act → World → Prop} {o : Oper} {Kx : Act → World → Prop}
theorem cln_KSapi_Head (d : Nat) (A : Option Addr) (c : Nat) (l : List Kc) (hr : Fa E (RowC A c Kc.cells tr l)) (hb : l.length * 40 ≤ 140737488355328)
  (h : ∀ A' c', Ge S0 w0 n ((d, .slice A' l.length c') :: K) (.own 27 5 (.slice A' l.length c') l.length (l.flatMap Kc.cells) :: E) Kx)
  (he : ∀ J, sx Tryz.prog (execOp (rho K J) o) [] = some (.enter 143 #[.slice A l.length c], []) := by intro J; kernel_rfl) (hd : o.dst = some d := by kernel_rfl) (hn : Nat.blt d n = true := by kernel_rfl) : Ge S0 w0 n K E (oW Tryz.prog o Q Kx) := by
 have hy : apG 40 ([] : List Kc) l = some l := by unfold apG; rw [if_pos (by simpa using hb)]; rfl
 refine ci d (args := [.slice A l.length c]) (fun E' e' w => ∃ A' c', Rs S0 w0 (.slice A' l.length c') (.own 27 5 (.slice A' l.length c') l.length (l.flatMap Kc.cells) :: E') True e' w) Tryz.func143 rfl rfl ?_ ?_ (by kernel_rfl) he hd hn
 ·cases A with
  | none =>
   intro a w S hK hE; have h0 : l = [] := by
    cases l with
    | nil => rfl
    | cons x l => obtain ⟨b, o, h1, _⟩ := (hr _ _ _ _ hE).r.r (by simp [Kc.cells]); cases h1
   subst h0; refine (?_ : Ge S0 w0 _ _ E _) a w S hK hE; clear hK hE a w S; refine sq ?_; refine rg ?_; refine ra [] f0 [] ?_; refine tN ?_; refine sq ?_; refine sq ?_; refine rg ?_; refine ra [] f0 [(4, B true)] ?_; refine tN ?_; refine ct ?_; refine sq ?_; refine rg ?_; refine ra [] f0 [(2, .slice none 0 0)] ?_; refine tN ?_; refine kR ?_; refine tR ?_; refine on 27 5 ?_; refine ri [] (.slice none 0 0) ?_; exact fun a w S hK hE => ⟨none, 0, rfl, ⟨S, hE⟩, trivial⟩
  | some a0 =>
   refine sq ?_; refine rg ?_; refine ra [] f0 [] ?_; refine tN ?_; refine sq ?_; refine sq ?_; refine rg ?_; refine ra [] f0 [(4, B false)] ?_; refine tN ?_; refine cf ?_; refine kS ?_; refine tN ?_; refine sq ?_; refine rg ?_; refine l1 ?_; refine nw 5 (vs 0) [] 27 fun g => ?_
   refine bo 0 5 0 g 27 [] ?_; refine rn 1 [] f0 [(6, .slice (some a0) l.length c)] ?_; refine l1 ?_; refine ap 0 7 (some ⟨g, 0, none⟩) 0 [] l inf39 (fun _ _ _ _ hE => hr _ _ _ _ (Es.drop hE (List.sublist_cons_self _ _))) hy Kc.one fun A' c' _ => ?_
   refine ra [] f0 [(2, .slice A' l.length c')] ?_; refine tN ?_; refine kR ?_; refine ri [] (.slice A' l.length c') ?_; exact fun a w S hK hE => ⟨A', c', rfl, ⟨S, hE⟩, trivial⟩
 ·rintro e' w ⟨A', c', hJ⟩; exact hJ.go fun _ => h A' c'
end
def Gf (F : Nat) (p_0 : Int) (p_1 : Int) : Option (Int) :=
  Option.bind (Option.bind (iter (σ := Int × Int × Int) (ρ := Int) (un3 fun (v_18 : Int) (v_19 : Int) (v_20 : Int) => 
        (ifB (decide (v_18 > 0))
          (Option.bind (ifB (((bits BinOp.and IntKind.i64 v_18 1) == 1))
              (Option.bind (some () : Option (Unit)) (fun (_ : Unit) => 
                some (Int.tmod (IntKind.i64.wrap (v_20 * v_19)) 2147483579)))
              (some v_20) : Option (Int)) (fun (v_26 : Int) => 
            Option.bind (some () : Option (Unit)) (fun (_ : Unit) => 
              some (.inl (Int.fdiv v_18 (2 ^ 1), Int.tmod (IntKind.i64.wrap (v_19 * v_19)) 2147483579, v_26)))))
          (some (.inr v_20)) : Option ((Int × Int × Int) ⊕ Int))) F (p_1, p_0, 1)) (fun (v_28 : Int) => 
      some v_28) : Option (Int)) (fun (v_30 : Int) => 
    some v_30)
theorem zr (F : Nat) (p_0 : Int) (p_1 : Int) (r : Int) (hG : Gf F p_0 p_1 = some r) :
  Cf Tryz.prog 117 [I p_0, I p_1] [] (I r) := by
 unfold Gf at hG; refine fi Tryz.func117 rfl rfl m0 fun S0 w0 hT => sq (rg (l1 (nw 2 vp [I p_0] 3 fun g_1 => ra [] f0 [] (tN (sq (rg (l1 (nw 5 vp [I 0] 3 fun g_2 => l1 (sr 0 g_2 [(0, I 1)] (nl (tN (sq (rg (ra [] f0 [(6, .func (.func 150) #[] #[])] (tN ?_)))))))))))))))
 obtain ⟨o_29, hG, hG_29⟩ := bs hG; refine jn (fun K E a w => ∃ v_30 : Int, Js S0 w0 21 (dk [1] K) ([.blk g_2 3 [I v_30]]) (v_30 = o_29) a w) ?_ ?_
 ·refine bk ?_; obtain ⟨e_21, hL, hG_21⟩ := bs hG; clear hG; obtain ⟨stp_21, hs_21, hL⟩ := iter_gen hL; refine lp (fun K E n_ a w => ∃ v_18 v_19 v_20 : Int, Js S0 w0 21 ([(1, I v_18)] ++ K) ([.blk g_1 3 [I v_19], .blk g_2 3 [I v_20]]) (iter stp_21 n_ (v_18, v_19, v_20) = some e_21) a w) F ?_ ?_
  ·exact fun _ _ S k e => ⟨p_1, p_0, 1, S, k.wk, e.sel [1, 0], hL⟩
  ·clear hL; rintro n_21 a w ⟨v_18, v_19, v_20, hJ⟩; refine hJ.go fun hL => ?_
   clear hJ; obtain ⟨m_21, o_21, rfl, hG, hO1_21, hO2_21⟩ := iter_step hL; clear hL; rw [hs_21] at hG; refine sq (sq (rg (ra [] f0 [(8, B (decide (v_18 > 0)))] (tN ?_)))); rcases ic hG with ⟨h_22, hG⟩ | ⟨h_22, hG⟩
   ·refine sb 8 (bt h_22) (ct (kS (tN (sq (bk ?_))))); obtain ⟨o_25, hG, hG_25⟩ := bs hG; refine jn (fun K E a w => ∃ v_26 : Int, Js S0 w0 21 (K) ([.blk g_2 3 [I v_26]] ++ se E [0]) (v_26 = o_25) a w) ?_ ?_
    ·refine sq (rg (ra [] f0 [(13, B ((bits BinOp.and IntKind.i64 v_18 1) == 1))] (tN ?_))); rcases ic hG with ⟨h_23, hG⟩ | ⟨h_23, hG⟩
     ·refine sb 13 (bt h_23) (ct ?_); obtain ⟨⟨⟩, hy_24, hG⟩ := bs hG; refine rg (rn 2 [(1, 1, 0, 0)] f0 [(14, .func (.func 150) #[] #[]), (15, I v_19)] (l1 (ci 16 (args := [Pt g_2 0, I v_19]) (fun E e w => Rs S0 w0 (.tuple #[]) ([.blk g_2 3 [I (Int.tmod (IntKind.i64.wrap (v_20 * v_19)) 2147483579)]] ++ se E [0]) (() = ()) e w) Tryz.func150 rfl rfl ?_ ?_)))
      ·replace hG := hy_24
       try (simp only [lm_, Kd.n_Hops] at hG; replace hG : _ = _ := hG)
       exact rg (rn 8 [(3, 1, 1, 0), (2, 0, 0, 0)] (fc (fun W => run_rem (T := 3) (k := .i64) (p := IntKind.i64.wrap (v_20 * v_19)) (q := 2147483579) (by decide) W) f0) [(10, I (Int.tmod (IntKind.i64.wrap (v_20 * v_19)) 2147483579)), (11, Pt g_2 0)] (l1 (sr 1 g_2 [(0, I (Int.tmod (IntKind.i64.wrap (v_20 * v_19)) 2147483579))] (nl (fall (ri [] (.tuple #[]) (fun a w S hK hE => ⟨rfl, ⟨S, hE.sel [1, 0]⟩, oi hG⟩)))))))
      ·rintro e w hJ; refine hJ.go fun ho_ => ?_
       clear hJ; exact nl (tN (fun _ _ S k e => ⟨Int.tmod (IntKind.i64.wrap (v_20 * v_19)) 2147483579, S, k.wk, e.sel [0, 1], oi hG⟩))
     ·exact sb 13 (bf h_23) (cf (kS (tN (fun _ _ S k e => ⟨v_20, S, k.wk, e.sel [1, 0], oi hG⟩))))
    ·rintro a w ⟨v_26, hJ⟩; refine hJ.go ?_; clear hJ; rintro rfl; replace hG := hG_25; obtain ⟨⟨⟩, hy_27, hG⟩ := bs hG; refine rg (rn 2 [(1, 1, 1, 0)] f0 [(17, .func (.func 150) #[] #[]), (18, I v_19)] (l1 (ci 19 (args := [Pt g_1 0, I v_19]) (fun E e w => Rs S0 w0 (.tuple #[]) ([.blk g_1 3 [I (Int.tmod (IntKind.i64.wrap (v_19 * v_19)) 2147483579)]] ++ se E [0]) (() = ()) e w) Tryz.func150 rfl rfl ?_ ?_)))
     ·replace hG := hy_27
      try (simp only [lm_, Kd.n_Hops] at hG; replace hG : _ = _ := hG)
      exact rg (rn 8 [(3, 1, 1, 0), (2, 0, 0, 0)] (fc (fun W => run_rem (T := 3) (k := .i64) (p := IntKind.i64.wrap (v_19 * v_19)) (q := 2147483579) (by decide) W) f0) [(10, I (Int.tmod (IntKind.i64.wrap (v_19 * v_19)) 2147483579)), (11, Pt g_1 0)] (l1 (sr 1 g_1 [(0, I (Int.tmod (IntKind.i64.wrap (v_19 * v_19)) 2147483579))] (nl (fall (ri [] (.tuple #[]) (fun a w S hK hE => ⟨rfl, ⟨S, hE.sel [1, 0]⟩, oi hG⟩)))))))
     ·rintro e w hJ; refine hJ.go fun ho_ => ?_
      clear hJ; exact nl (hN (tN (rg (ra [] f0 [(1, I (Int.fdiv v_18 (2 ^ 1)))] (tN (fun a w S hK hE => ⟨m_21, ⟨Int.fdiv v_18 (2 ^ 1), Int.tmod (IntKind.i64.wrap (v_19 * v_19)) 2147483579, v_26, S, hK.wk, hE.sel [0, 1], hO1_21 _ (oi hG).symm⟩, Nat.lt_succ_self _⟩))))))
   ·refine sb 8 (bf h_22) (cf (kX (tX (tX ?_)))); have he_ := hO2_21 _ (oi hG).symm; subst he_; replace hG := hG_21; exact hH (tN (fun _ _ S k e => ⟨v_20, S, k.wk, e.sel [1], oi hG⟩))
 ·rintro a w ⟨v_30, hJ⟩; refine hJ.go ?_; clear hJ; rintro rfl; replace hG := hG_29; refine sq (rg (ra [(0, 1, 0, 0)] f0 [(4, I v_30)] (tN (kR ?_)))); obtain rfl := oi hG; exact rt []
def G0 (F : Nat) (p_0 : Int) (p_1 : Int) (p_2 : List Int) : Option (Int) :=
 Option.bind (apG 8 ([p_0, p_1] : List Int) p_2) (fun v_2 =>
 Option.bind (Gad F v_2) (fun v_3 =>
 some (IntKind.i64.wrap (Int.tmod v_3 1073741789))))
theorem z8 (F : Nat) (p_0 : Int) (p_1 : Int) (p_2_A : Option Addr) (p_2_c : Nat) (p_2 : List Int) (r : Int) (hG : G0 F p_0 p_1 p_2 = some r) :
  Cf Tryz.prog 116 [I p_0, I p_1, .slice p_2_A p_2.length p_2_c] [RowC p_2_A p_2_c c_i64 tr p_2] (I r) := by
 unfold G0 at hG
 try simp only [lm_, Kd.n_Hops] at hG
 refine fi Tryz.func116 rfl rfl (mr tr_mv m0) fun S0 w0 hT => sq (rg (ra [] f0 [] (tN (sq ?_))))
 obtain ⟨v_2, hy_2, hG⟩ := bs hG; refine rg (rn 2 [] f0 [(8, I p_0), (9, I p_1)] (l1 (nw 10 (vs 2) [I p_0, I p_1] 3 fun g_1 => rn 1 [] f0 [(11, .slice p_2_A p_2.length p_2_c)] (bo 0 1 2 g_1 3 [I p_0, I p_1] (l1 (ap 0 12 (some ⟨g_1, 0, none⟩) 2 ([p_0, p_1] : List Int) p_2 inf22 ((gd' (RowC p_2_A p_2_c c_i64 tr p_2) 1).a) hy_2 one_i64 fun v_2_A v_2_c _ => ra [] f0 [(7, .slice v_2_A v_2.length v_2_c)] (tN (sq ?_)))))))); obtain ⟨v_3, hy_3, hG⟩ := bs hG; refine rg (rn 1 [] f0 [(13, .slice v_2_A v_2.length v_2_c)] (l1 (cl 14 (z7 F v_2_A v_2_c v_2 _ hy_3) hT ⟨oa 0 et.a, trivial⟩ (ra [(0, 0, 0, 0)] (fc (fun W => run_rem (T := 23) (k := .u64) (p := v_3) (q := 1073741789) (by decide) W) f0) [(6, I (IntKind.i64.wrap (Int.tmod v_3 1073741789)))] (tN (kR ?_)))))); obtain rfl := oi hG; exact rt []
def Gp (F : Nat) (p_0 : Int) (p_1 : Int) : Option (Bool) :=
  Option.bind (ifB (decide (p_1 ≤ p_0))
      (some (decide (p_0 < 1073741789)))
      (some false) : Option (Bool)) (fun (v_3 : Bool) => 
    some v_3)
theorem zn (F : Nat) (p_0 : Int) (p_1 : Int) (r : Bool) (hG : Gp F p_0 p_1 = some r) :
  Cf Tryz.prog 115 [I p_0, I p_1] [] (B r) := by
 unfold Gp at hG; refine fi Tryz.func115 rfl rfl m0 fun S0 w0 hT => sq (rg (ra [] f0 [] (tN ?_)))
 obtain ⟨o_2, hG, hG_2⟩ := bs hG; refine jn (fun K E a w => ∃ v_3 : Bool, Js S0 w0 12 ([(4, B v_3)] ++ K) (se E []) (v_3 = o_2) a w) ?_ ?_
 ·rcases ic hG with ⟨h_1, hG⟩ | ⟨h_1, hG⟩
  ·exact rg (rn 4 [] f0 [(8, B (decide (p_1 ≤ p_0)))] (sb 8 (bt h_1) (ra [] f0 [(4, B (decide (p_0 < 1073741789)))] (tN (fun _ _ S k e => ⟨decide (p_0 < 1073741789), S, k.wk, e.sel [], oi hG⟩)))))
  ·exact rg (rn 4 [] f0 [(8, B (decide (p_1 ≤ p_0)))] (sb 8 (bf h_1) (ra [] f0 [(4, B false)] (tN (fun _ _ S k e => ⟨false, S, k.wk, e.sel [], oi hG⟩)))))
 ·rintro a w ⟨v_3, hJ⟩; refine hJ.go ?_; clear hJ; rintro rfl; replace hG := hG_2; refine kR ?_; obtain rfl := oi hG; exact rt []
def Gb (F : Nat) (p_0 : Int) (p_1 : Int) (p_2 : Int) : Option (Bool) :=
  Option.bind (ifB (decide (p_1 ≤ p_0))
      (some (decide (p_0 ≤ p_2)))
      (some false) : Option (Bool)) (fun (v_3 : Bool) => 
    some v_3)
theorem zf (F : Nat) (p_0 : Int) (p_1 : Int) (p_2 : Int) (r : Bool) (hG : Gb F p_0 p_1 p_2 = some r) :
  Cf Tryz.prog 59 [I p_0, I p_1, I p_2] [] (B r) := by
 unfold Gb at hG; refine fi Tryz.func59 rfl rfl m0 fun S0 w0 hT => sq (rg (ra [] f0 [] (tN ?_)))
 obtain ⟨o_2, hG, hG_2⟩ := bs hG; refine jn (fun K E a w => ∃ v_3 : Bool, Js S0 w0 15 ([(6, B v_3)] ++ K) (se E []) (v_3 = o_2) a w) ?_ ?_
 ·rcases ic hG with ⟨h_1, hG⟩ | ⟨h_1, hG⟩
  ·exact rg (rn 4 [] f0 [(10, B (decide (p_1 ≤ p_0)))] (sb 10 (bt h_1) (ra [] f0 [(6, B (decide (p_0 ≤ p_2)))] (tN (fun _ _ S k e => ⟨decide (p_0 ≤ p_2), S, k.wk, e.sel [], oi hG⟩)))))
  ·exact rg (rn 4 [] f0 [(10, B (decide (p_1 ≤ p_0)))] (sb 10 (bf h_1) (ra [] f0 [(6, B false)] (tN (fun _ _ S k e => ⟨false, S, k.wk, e.sel [], oi hG⟩)))))
 ·rintro a w ⟨v_3, hJ⟩; refine hJ.go ?_; clear hJ; rintro rfl; replace hG := hG_2; refine kR ?_; obtain rfl := oi hG; exact rt []
def Gah (F : Nat) (p_0 : Kc) : Option ((List Int)) :=
 some ([p_0.Office, p_0.Size, IntKind.i64.wrap (Int.fdiv p_0.Root (2 ^ 32)), IntKind.i64.wrap (IntKind.u32.wrap p_0.Root)] : List Int)
theorem zaa (F : Nat) (p_0 : Kc) (r : (List Int)) (hG : Gah F p_0 = some r) :
  Cn Tryz.prog 62 [.agg #[I p_0.Office, I p_0.Size, U p_0.Root, I p_0.Sig.C, I p_0.Sig.S]] [] (fun q : Ku => r = q.l) (fun q => .slice q.A q.l.length q.c) (fun q => [RowC q.A q.c c_i64 tr q.l]) := by
 unfold Gah at hG; refine fin Tryz.func62 rfl rfl m0 fun S0 w0 hT => sq (rg (l1 (nw 1 vp [I p_0.Office, I p_0.Size, U p_0.Root, I p_0.Sig.C, I p_0.Sig.S] 27 fun g_1 => ra [] f0 [] (tN (sq (rg (rn 12 [(1, 1, 0, 0), (1, 1, 0, 1), (1, 1, 0, 2), (3, 1, 0, 2)] f0 [(4, I p_0.Office), (6, I p_0.Size), (10, I (IntKind.i64.wrap (Int.fdiv p_0.Root (2 ^ 32)))), (14, I (IntKind.i64.wrap (IntKind.u32.wrap p_0.Root)))] (l1 (nw 15 (vs 4) [I p_0.Office, I p_0.Size, I (IntKind.i64.wrap (Int.fdiv p_0.Root (2 ^ 32))), I (IntKind.i64.wrap (IntKind.u32.wrap p_0.Root))] 3 fun g_2 => ra [] f0 [(2, Sb g_2 4 4)] (tN (kR ?_)))))))))))
 obtain rfl := oi hG; exact sB 0 g_2 c_i64 tr ([p_0.Office, p_0.Size, IntKind.i64.wrap (Int.fdiv p_0.Root (2 ^ 32)), IntKind.i64.wrap (IntKind.u32.wrap p_0.Root)] : List Int) tr_mv et (rtn [] ⟨(some ⟨g_2, 0, none⟩), 4, ([p_0.Office, p_0.Size, IntKind.i64.wrap (Int.fdiv p_0.Root (2 ^ 32)), IntKind.i64.wrap (IntKind.u32.wrap p_0.Root)] : List Int)⟩ rfl ⟨gi 0, trivial⟩)
def Gd (F : Nat) (p_0 : Kc) : Option (Int) :=
 Option.bind (Gad F ([p_0.Office, p_0.Size, IntKind.i64.wrap (Int.fdiv p_0.Root (2 ^ 32)), IntKind.i64.wrap (bits BinOp.and IntKind.u64 p_0.Root 4294967295), p_0.Sig.C, p_0.Sig.S] : List Int)) (fun v_3 =>
 some v_3)
theorem zq (F : Nat) (p_0 : Kc) (r : Int) (hG : Gd F p_0 = some r) :
  Cf Tryz.prog 73 [.agg #[I p_0.Office, I p_0.Size, U p_0.Root, I p_0.Sig.C, I p_0.Sig.S]] [] (U r) := by
 unfold Gd at hG; refine fi Tryz.func73 rfl rfl m0 fun S0 w0 hT => sq (rg (l1 (nw 1 vp [I p_0.Office, I p_0.Size, U p_0.Root, I p_0.Sig.C, I p_0.Sig.S] 27 fun g_1 => ra [] f0 [] (tN (sq ?_)))))
 obtain ⟨v_3, hy_3, hG⟩ := bs hG; refine rg (rn 18 [(1, 1, 0, 0), (1, 1, 0, 1), (1, 1, 0, 2), (3, 1, 0, 2), (4, 1, 0, 3), (2, 1, 0, 4)] f0 [(4, I p_0.Office), (6, I p_0.Size), (10, I (IntKind.i64.wrap (Int.fdiv p_0.Root (2 ^ 32)))), (14, I (IntKind.i64.wrap (bits BinOp.and IntKind.u64 p_0.Root 4294967295))), (17, I p_0.Sig.C), (20, I p_0.Sig.S)] (l1 (nw 21 (vs 6) [I p_0.Office, I p_0.Size, I (IntKind.i64.wrap (Int.fdiv p_0.Root (2 ^ 32))), I (IntKind.i64.wrap (bits BinOp.and IntKind.u64 p_0.Root 4294967295)), I p_0.Sig.C, I p_0.Sig.S] 3 fun g_2 => l1 (cl 22 (z7 F (some ⟨g_2, 0, none⟩) 6 ([p_0.Office, p_0.Size, IntKind.i64.wrap (Int.fdiv p_0.Root (2 ^ 32)), IntKind.i64.wrap (bits BinOp.and IntKind.u64 p_0.Root 4294967295), p_0.Sig.C, p_0.Sig.S] : List Int) _ hy_3) hT ⟨ba 0 et.a, trivial⟩ (ra [] f0 [(2, U v_3)] (tN (kR ?_))))))); obtain rfl := oi hG; exact rt []
def Gag (F : Nat) (p_0 : Ke) : Option (Bool) :=
  Option.bind (ifB (decide (0 ≤ p_0.Lo))
      (ifB (decide (p_0.Lo ≤ p_0.Hi))
        (some (decide (p_0.Hi ≤ 3000000000000000)))
        (some false))
      (some false) : Option (Bool)) (fun (v_5 : Bool) => 
    some v_5)
theorem zao (F : Nat) (p_0 : Ke) (r : Bool) (hG : Gag F p_0 = some r) :
  Cf Tryz.prog 149 [.agg #[I p_0.Lo, I p_0.Hi]] [] (B r) := by
 unfold Gag at hG; refine fi Tryz.func149 rfl rfl m0 fun S0 w0 hT => sq (rg (l1 (nw 1 vp [I p_0.Lo, I p_0.Hi] 29 fun g_1 => ra [] f0 [] (tN ?_))))
 obtain ⟨o_4, hG, hG_4⟩ := bs hG; refine jn (fun K E a w => ∃ v_5 : Bool, Js S0 w0 18 ([(2, B v_5)] ++ K) (se E []) (v_5 = o_4) a w) ?_ ?_
 ·rcases ic hG with ⟨h_2, hG⟩ | ⟨h_2, hG⟩
  ·rcases ic hG with ⟨h_3, hG⟩ | ⟨h_3, hG⟩
   ·exact rg (rn 4 [(1, 1, 0, 0)] f0 [(6, B (decide (0 ≤ p_0.Lo)))] (sb 6 (bt h_2) (rn 7 [(1, 1, 0, 0), (1, 1, 0, 1)] f0 [(13, B (decide (p_0.Lo ≤ p_0.Hi)))] (sb 13 (bt h_3) (ra [(1, 1, 0, 1)] f0 [(2, B (decide (p_0.Hi ≤ 3000000000000000)))] (tN (fun _ _ S k e => ⟨decide (p_0.Hi ≤ 3000000000000000), S, k.wk, e.sel [], oi hG⟩)))))))
   ·exact rg (rn 4 [(1, 1, 0, 0)] f0 [(6, B (decide (0 ≤ p_0.Lo)))] (sb 6 (bt h_2) (rn 7 [(1, 1, 0, 0), (1, 1, 0, 1)] f0 [(13, B (decide (p_0.Lo ≤ p_0.Hi)))] (sb 13 (bf h_3) (ra [] f0 [(2, B false)] (tN (fun _ _ S k e => ⟨false, S, k.wk, e.sel [], oi hG⟩)))))))
  ·exact rg (rn 4 [(1, 1, 0, 0)] f0 [(6, B (decide (0 ≤ p_0.Lo)))] (sb 6 (bf h_2) (ra [] f0 [(2, B false)] (tN (fun _ _ S k e => ⟨false, S, k.wk, e.sel [], oi hG⟩)))))
 ·rintro a w ⟨v_5, hJ⟩; refine hJ.go ?_; clear hJ; rintro rfl; replace hG := hG_4; refine kR ?_; obtain rfl := oi hG; exact rt []
def Gav (F : Nat) (p_0 : Kr) : Option (Int) :=
 Option.bind (Gau F p_0.Entry.Doc ([p_0.Entry.Stamp.Lo, p_0.Entry.Stamp.Hi] : List Int)) (fun v_3 =>
 some v_3)
theorem zap (F : Nat) (p_0 : Kr) (r : Int) (hG : Gav F p_0 = some r) :
  Cf Tryz.prog 118 [.agg #[U p_0.Entry.Doc, I p_0.Entry.Stamp.Lo, I p_0.Entry.Stamp.Hi]] [] (U r) := by
 unfold Gav at hG; refine fi Tryz.func118 rfl rfl m0 fun S0 w0 hT => sq (rg (l1 (nw 1 vp [U p_0.Entry.Doc, I p_0.Entry.Stamp.Lo, I p_0.Entry.Stamp.Hi] 165 fun g_1 => ra [] f0 [] (tN (sq ?_)))))
 obtain ⟨v_3, hy_3, hG⟩ := bs hG; refine rg (rn 11 [(2, 1, 0, 0), (3, 1, 0, 1), (3, 1, 0, 2)] f0 [(5, U p_0.Entry.Doc), (9, I p_0.Entry.Stamp.Lo), (13, I p_0.Entry.Stamp.Hi)] (l1 (nw 14 (vs 2) [I p_0.Entry.Stamp.Lo, I p_0.Entry.Stamp.Hi] 3 fun g_2 => l1 (cl 15 (zal F p_0.Entry.Doc (some ⟨g_2, 0, none⟩) 2 ([p_0.Entry.Stamp.Lo, p_0.Entry.Stamp.Hi] : List Int) _ hy_3) hT ⟨ba 0 et.a, trivial⟩ (ra [] f0 [(2, U v_3)] (tN (kR ?_))))))); obtain rfl := oi hG; exact rt []
def Gaj (F : Nat) (p_0 : Ks) (p_1 : Int) (p_2 : Int) : Option (Bool) :=
  Option.bind (some (mpG p_0.offices p_1 Kf.z, mpH p_0.offices p_1)) (un2 fun v_1 v_2 =>
  Option.bind (ifB (v_2)
      (ifB (decide (0 ≤ p_2))
        (some (decide (p_2 < (v_1.Entries.length : Int))))
        (some false))
      (some false) : Option (Bool)) (fun (v_7 : Bool) => 
    some v_7))
theorem zz (F : Nat) (p_0_A : Nat) (p_0 : Kl) (p_1 : Int) (p_2 : Int) (r : Bool) (hG : Gaj F p_0.p p_1 p_2 = some r) :
  Cf Tryz.prog 44 [Pt p_0_A 0, I p_1, I p_2] [fun S W => RecS S W p_0_A 0 p_0.cells, Kl.ok p_0] (B r) := by
 unfold Gaj at hG
 try simp only [lm_, Kd.n_Hops] at hG
 refine fi Tryz.func44 rfl rfl (mrec (mc Kl.mv m0)) fun S0 w0 hT => rp p_0_A p_0.cells (gd' (fun S W => RecS S W p_0_A 0 p_0.cells) 0) (sq (rg (ra [] f0 [] (tN (sq ?_)))))
 obtain ⟨v_1o, v_2, hy_1, hG⟩ := b2 hG; refine rg (rn 5 [(3, 1, 0, 0)] f0 [(13, .map (some p_0.offices_b)), (14, I p_1)] (l1 (ml2 15 p_0.offices_b p_0.offices p_1 Ka.z Ka.p _ v_2 hy_1 (gm (Kl.ok p_0) 2 fun _ _ h => h.f_offices) Ka.z_ok Tryz.underlying99 Tryz.underlying3 (fun w => by kernel_rfl) fun v_1 he_1 => ?_))); subst he_1
 try simp only [lm_, Kd.n_Hops] at hG
 refine rn 3 [] f0 [(16, .agg #[I v_1.ID, .slice v_1.Entries_A v_1.Entries.length v_1.Entries_c]), (17, B v_2)] (l1 (nw 7 vp [I 0, .slice none 0 0] 53 fun g_3 => l1 (sr 0 g_3 [(0, I v_1.ID), (1, .slice v_1.Entries_A v_1.Entries.length v_1.Entries_c)] (ra [] f0 [(8, B v_2)] (tN ?_))))); obtain ⟨o_6, hG, hG_6⟩ := bs hG; refine jn (fun K E a w => ∃ v_7 : Bool, Js S0 w0 30 ([(6, B v_7)] ++ K) (se E []) (v_7 = o_6) a w) ?_ ?_
 ·rcases ic hG with ⟨h_4, hG⟩ | ⟨h_4, hG⟩
  ·rcases ic hG with ⟨h_5, hG⟩ | ⟨h_5, hG⟩
   ·exact rg (rn 2 [] f0 [(19, B v_2)] (sb 19 (bt h_4) (rn 4 [] f0 [(23, B (decide (0 ≤ p_2)))] (sb 23 (bt h_5) (ra [(2, 1, 0, 1)] f0 [(6, B (decide (p_2 < (v_1.Entries.length : Int))))] (tN (fun _ _ S k e => ⟨decide (p_2 < (v_1.Entries.length : Int)), S, k.wk, e.sel [], oi hG⟩)))))))
   ·exact rg (rn 2 [] f0 [(19, B v_2)] (sb 19 (bt h_4) (rn 4 [] f0 [(23, B (decide (0 ≤ p_2)))] (sb 23 (bf h_5) (ra [] f0 [(6, B false)] (tN (fun _ _ S k e => ⟨false, S, k.wk, e.sel [], oi hG⟩)))))))
  ·exact rg (rn 2 [] f0 [(19, B v_2)] (sb 19 (bf h_4) (ra [] f0 [(6, B false)] (tN (fun _ _ S k e => ⟨false, S, k.wk, e.sel [], oi hG⟩)))))
 ·rintro a w ⟨v_7, hJ⟩; refine hJ.go ?_; clear hJ; rintro rfl; replace hG := hG_6; refine kR ?_; obtain rfl := oi hG; exact rt []
def Gw (F : Nat) (p_0 : Kj) : Option (Kc) :=
 Option.bind (ixI p_0.heads (IntKind.i64.wrap ((p_0.heads.length : Int) - 1))) (fun v_3 =>
 some v_3)
theorem zw (F : Nat) (p_0 : Ki) (r : Kc) (hG : Gw F p_0.p = some r) :
  Cf Tryz.prog 47 [.agg #[.slice p_0.heads_A p_0.heads.length p_0.heads_c, I p_0.at_]] [Ki.ok p_0] (.agg #[I r.Office, I r.Size, U r.Root, I r.Sig.C, I r.Sig.S]) := by
 unfold Gw at hG
 try simp only [lm_, Kd.n_Hops] at hG
 refine fi Tryz.func47 rfl rfl (mc Ki.mv m0) fun S0 w0 hT => sq (rg (l1 (nw 1 vp [.slice p_0.heads_A p_0.heads.length p_0.heads_c, I p_0.at_] 96 fun g_1 => l1 (nw 2 vp [I 0, I 0, U 0, I 0, I 0] 27 fun g_2 => nl (tN (sq ?_))))))
 obtain ⟨v_3, hy_3, hG⟩ := bs hG; refine rg (fx inf39 (gm (Ki.ok p_0) 2 fun _ _ h => h.f_heads) hy_3 fun b_4 o_5 hi_3 => rn 8 [(1, 1, 2, 0), (1, 1, 2, 0), (2, 0, 0, 0), (0, 5, 0, 0)] (fc (hi_3 .i64) f0) [(10, .agg #[I v_3.Office, I v_3.Size, U v_3.Root, I v_3.Sig.C, I v_3.Sig.S])] (l1 (sr 1 g_2 (ns 0 [I v_3.Office, I v_3.Size, U v_3.Root, I v_3.Sig.C, I v_3.Sig.S]) (nl (tN (kR ?_)))))); obtain rfl := oi hG; exact rt [(1, 0, 5)]
def G4 (F : Nat) (p_0 : Kq) : Option ((List Int)) :=
  Option.bind (Option.bind (iter (σ := Int × (List Int)) (ρ := (List Int)) (un2 fun (v_21 : Int) (v_22 : (List Int)) => 
        (ifB (decide (v_21 < (p_0.Hops.length : Int)))
          (Option.bind (ixI p_0.Hops v_21) (fun v_27 =>
          Option.bind (apG 8 v_22 ([v_27.By.Head.Office] : List Int)) (fun v_32 =>
          some (.inl (IntKind.i64.wrap (v_21 + 1), v_32)))))
          (some (.inr v_22)) : Option ((Int × (List Int)) ⊕ (List Int)))) F (0, ([p_0.First.Head.Office] : List Int))) (fun (v_33 : (List Int)) => 
      some v_33) : Option ((List Int))) (fun (v_37 : (List Int)) => 
    some v_37)
theorem zad (F : Nat) (p_0 : Kd) (r : (List Int)) (hG : G4 F p_0.p = some r) :
  Cn Tryz.prog 18 [.agg #[I p_0.First.Head.Office, I p_0.First.Head.Size, U p_0.First.Head.Root, I p_0.First.Head.Sig.C, I p_0.First.Head.Sig.S, I p_0.First.Index, U p_0.First.Entry.Doc, I p_0.First.Entry.Stamp.Lo, I p_0.First.Entry.Stamp.Hi, .slice p_0.First.Path_A p_0.First.Path.length p_0.First.Path_c, .slice p_0.Hops_A p_0.Hops.length p_0.Hops_c, .slice p_0.Grow_A p_0.Grow.length p_0.Grow_c, I p_0.Last.Head.Office, I p_0.Last.Head.Size, U p_0.Last.Head.Root, I p_0.Last.Head.Sig.C, I p_0.Last.Head.Sig.S, I p_0.Last.Index, U p_0.Last.Entry.Doc, I p_0.Last.Entry.Stamp.Lo, I p_0.Last.Entry.Stamp.Hi, .slice p_0.Last.Path_A p_0.Last.Path.length p_0.Last.Path_c]] [Kd.ok p_0] (fun q : Ku => r = q.l) (fun q => .slice q.A q.l.length q.c) (fun q => [RowC q.A q.c c_i64 tr q.l]) := by
 unfold G4 at hG
 try simp only [lm_, Kd.n_Hops] at hG
 refine fin Tryz.func18 rfl rfl (mc Kd.mv m0) fun S0 w0 hT => sq (rg (l1 (nw 1 vp [I p_0.First.Head.Office, I p_0.First.Head.Size, U p_0.First.Head.Root, I p_0.First.Head.Sig.C, I p_0.First.Head.Sig.S, I p_0.First.Index, U p_0.First.Entry.Doc, I p_0.First.Entry.Stamp.Lo, I p_0.First.Entry.Stamp.Hi, .slice p_0.First.Path_A p_0.First.Path.length p_0.First.Path_c, .slice p_0.Hops_A p_0.Hops.length p_0.Hops_c, .slice p_0.Grow_A p_0.Grow.length p_0.Grow_c, I p_0.Last.Head.Office, I p_0.Last.Head.Size, U p_0.Last.Head.Root, I p_0.Last.Head.Sig.C, I p_0.Last.Head.Sig.S, I p_0.Last.Index, U p_0.Last.Entry.Doc, I p_0.Last.Entry.Stamp.Lo, I p_0.Last.Entry.Stamp.Hi, .slice p_0.Last.Path_A p_0.Last.Path.length p_0.Last.Path_c] 37 fun g_1 => ra [] f0 [] (tN (sq (rg (rn 4 [(3, 1, 0, 0)] f0 [(9, I p_0.First.Head.Office)] (l1 (nw 10 (vs 1) [I p_0.First.Head.Office] 3 fun g_2 => ra [] f0 [(3, Sb g_2 1 1)] (tN ?_))))))))))
 obtain ⟨o_36, hG, hG_36⟩ := bs hG; refine jn (fun K E a w => ∃ (v_37 : List Int) (v_38_A : Option Addr) (v_39_c : Nat), Js S0 w0 27 ([(3, .slice v_38_A v_37.length v_39_c)] ++ K) ([.own 3 1 (.slice v_38_A v_37.length v_39_c) v_37.length (v_37.flatMap c_i64)]) (v_37 = o_36) a w) ?_ ?_
 ·refine sq (rg (ra [(1, 1, 1, 10)] f0 (ns 12 [.slice p_0.Hops_A p_0.Hops.length p_0.Hops_c, I (p_0.Hops.length : Int), I 0]) (tN (bk ?_)))); obtain ⟨e_25, hL, hG_25⟩ := bs hG; clear hG; obtain ⟨stp_25, hs_25, hL⟩ := iter_gen hL; refine lp (fun K E n_ a w => ∃ (v_21 : Int) (v_22 : List Int) (v_23_A : Option Addr) (v_24_c : Nat), Js S0 w0 27 ([(3, .slice v_23_A v_22.length v_24_c), (14, I v_21)] ++ K) ([.dat (RowC p_0.Hops_A p_0.Hops_c Kg.cells Kg.ok p_0.Hops), .own 3 1 (.slice v_23_A v_22.length v_24_c) v_22.length (v_22.flatMap c_i64)]) (iter stp_25 n_ (v_21, v_22) = some e_25) a w) F ?_ ?_
  ·exact fg (Kd.ok p_0) 2 (fun _ _ h => h.f_Hops) (bo 1 1 1 g_2 3 [I p_0.First.Head.Office] (fun _ _ S k e => ⟨0, ([p_0.First.Head.Office] : List Int), (some ⟨g_2, 0, none⟩), 1, S, k.wk, e.sel [0, 1], hL⟩))
  ·clear hL; rintro n_25 a w ⟨v_21, v_22, v_23_A, v_24_c, hJ⟩; refine hJ.go fun hL => ?_
   clear hJ; obtain ⟨m_25, o_25, rfl, hG, hO1_25, hO2_25⟩ := iter_step hL; clear hL; rw [hs_25] at hG; refine sq (rg (ra [] f0 [(15, B (decide (v_21 < (p_0.Hops.length : Int))))] (tN (sq ?_)))); rcases ic hG with ⟨h_26, hG⟩ | ⟨h_26, hG⟩
   ·try simp only [lm_, Kd.n_Hops] at h_26
    refine sb 15 (bt h_26) (ct (kS (tN (sq (bk (sq ?_)))))); obtain ⟨v_27o, hy_27, hG⟩ := bs hG; refine rg (fxn (p := Kg.p) inf35 (gd' (RowC p_0.Hops_A p_0.Hops_c Kg.cells Kg.ok p_0.Hops) 0) hy_27 fun v_27 b_28 o_29 he_27 hi_27 => ?_); subst he_27
    try simp only [lm_, Kd.n_Hops] at hG
    refine rn 2 [(0, 0, 0, 0), (0, 16, 0, 0)] (fc (hi_27 .i64) f0) [(17, .agg #[I v_27.Of.Office, I v_27.Of.Size, U v_27.Of.Root, I v_27.Of.Sig.C, I v_27.Of.Sig.S, .slice v_27.Grow_A v_27.Grow.length v_27.Grow_c, I v_27.By.Head.Office, I v_27.By.Head.Size, U v_27.By.Head.Root, I v_27.By.Head.Sig.C, I v_27.By.Head.Sig.S, I v_27.By.Index, U v_27.By.Entry.Doc, I v_27.By.Entry.Stamp.Lo, I v_27.By.Entry.Stamp.Hi, .slice v_27.By.Path_A v_27.By.Path.length v_27.By.Path_c])] (l1 (nw 5 vp (Kg.cells Kg.z) 79 fun g_30 => l1 (sr 0 g_30 (ns 0 [I v_27.Of.Office, I v_27.Of.Size, U v_27.Of.Root, I v_27.Of.Sig.C, I v_27.Of.Sig.S, .slice v_27.Grow_A v_27.Grow.length v_27.Grow_c, I v_27.By.Head.Office, I v_27.By.Head.Size, U v_27.By.Head.Root, I v_27.By.Head.Sig.C, I v_27.By.Head.Sig.S, I v_27.By.Index, U v_27.By.Entry.Doc, I v_27.By.Entry.Stamp.Lo, I v_27.By.Entry.Stamp.Hi, .slice v_27.By.Path_A v_27.By.Path.length v_27.By.Path_c]) (nl (tN ?_))))); obtain ⟨v_32, hy_32, hG⟩ := bs hG; exact rg (rn 5 [(4, 1, 0, 6)] f0 [(18, .slice v_23_A v_22.length v_24_c), (22, I v_27.By.Head.Office)] (l1 (nw 23 (vs 1) [I v_27.By.Head.Office] 3 fun g_31 => l1 (ap 5 24 v_23_A v_24_c v_22 ([v_27.By.Head.Office] : List Int) inf22 (bA (f := c_i64) (ok := tr) (l := ([v_27.By.Head.Office] : List Int)) g_31 0 et.a) hy_32 one_i64 fun v_32_A v_32_c _ => ra [] f0 [(3, .slice v_32_A v_32.length v_32_c)] (hN (tN (rg (ra [] f0 [(14, I (IntKind.i64.wrap (v_21 + 1)))] (tN (fun a w S hK hE => ⟨m_25, ⟨IntKind.i64.wrap (v_21 + 1), v_32, v_32_A, v_32_c, S, hK.wk, hE.sel [4, 5], hO1_25 _ (oi hG).symm⟩, Nat.lt_succ_self _⟩))))))))))
   ·try simp only [lm_, Kd.n_Hops] at h_26
    refine sb 15 (bf h_26) (cf (kX (tX (tX ?_)))); have he_ := hO2_25 _ (oi hG).symm; subst he_; replace hG := hG_25; exact hH (tN (fun _ _ S k e => ⟨v_22, v_23_A, v_24_c, S, k.wk, e.sel [1], oi hG⟩))
 ·rintro a w ⟨v_37, v_38_A, v_39_c, hJ⟩; refine hJ.go ?_; clear hJ; rintro rfl; replace hG := hG_36; refine sq (rg (ra [] f0 [(2, .slice v_38_A v_37.length v_39_c)] (tN (kR ?_)))); obtain rfl := oi hG; exact so (A := v_38_A) (c := v_39_c) 0 c_i64 tr v_37 tr_mv et (rtn [] ⟨v_38_A, v_39_c, v_37⟩ rfl ⟨gi 0, trivial⟩)
def G7 (F : Nat) (p_0 : Int) (p_1 : Int) (p_2 : Int) : Option (Int) :=
  Option.bind (Option.bind (iter (σ := Int × Int × Int × Int) (ρ := Int) (un4 fun (v_19 : Int) (v_20 : Int) (v_21 : Int) (v_22 : Int) => 
        (ifB (decide (v_20 > 0))
          (Option.bind (ifB (((Int.tmod v_20 2) == 1))
              (Option.bind (whenG (!(v_21 == 0)) ()) (fun v_26 =>
              some (Int.tmod (IntKind.i64.wrap (v_22 * v_19)) v_21)))
              (some v_22) : Option (Int)) (fun (v_28 : Int) => 
            Option.bind (whenG (!(v_21 == 0)) ()) (fun v_29 =>
            some (.inl (Int.tmod (IntKind.i64.wrap (v_19 * v_19)) v_21, IntKind.i64.wrap (Int.tdiv v_20 2), v_21, v_28)))))
          (some (.inr v_22)) : Option ((Int × Int × Int × Int) ⊕ Int))) F (p_0, p_1, p_2, 1)) (fun (v_30 : Int) => 
      some v_30) : Option (Int)) (fun (v_32 : Int) => 
    some v_32)
theorem za2 (F : Nat) (p_0 : Int) (p_1 : Int) (p_2 : Int) (r : Int) (hG : G7 F p_0 p_1 p_2 = some r) :
  Cf Tryz.prog 72 [I p_0, I p_1, I p_2] [] (I r) := by
 unfold G7 at hG; refine fi Tryz.func72 rfl rfl m0 fun S0 w0 hT => sq (rg (ra [] f0 [] (tN (sq (rg (ra [] f0 [(7, I 1)] (tN ?_)))))))
 obtain ⟨o_31, hG, hG_31⟩ := bs hG; refine jn (fun K E a w => ∃ v_32 : Int, Js S0 w0 26 ([(7, I v_32)] ++ dk [0, 1, 2] K) (se E []) (v_32 = o_31) a w) ?_ ?_
 ·refine bk ?_; obtain ⟨e_23, hL, hG_23⟩ := bs hG; clear hG; obtain ⟨stp_23, hs_23, hL⟩ := iter_gen hL; refine lp (fun K E n_ a w => ∃ v_19 v_20 v_21 v_22 : Int, Js S0 w0 26 ([(0, I v_19), (1, I v_20), (2, I v_21), (7, I v_22)] ++ K) (se E []) (iter stp_23 n_ (v_19, v_20, v_21, v_22) = some e_23) a w) F ?_ ?_
  ·exact fun _ _ S k e => ⟨p_0, p_1, p_2, 1, S, k.wk, e.sel [], hL⟩
  ·clear hL; rintro n_23 a w ⟨v_19, v_20, v_21, v_22, hJ⟩; refine hJ.go fun hL => ?_
   clear hJ; obtain ⟨m_23, o_23, rfl, hG, hO1_23, hO2_23⟩ := iter_step hL; clear hL; rw [hs_23] at hG; refine sq (sq (rg (ra [] f0 [(9, B (decide (v_20 > 0)))] (tN ?_)))); rcases ic hG with ⟨h_24, hG⟩ | ⟨h_24, hG⟩
   ·refine sb 9 (bt h_24) (ct (kS (tN (bk ?_)))); obtain ⟨o_27, hG, hG_27⟩ := bs hG; refine jn (fun K E a w => ∃ v_28 : Int, Js S0 w0 26 ([(7, I v_28)] ++ K) (se E []) (v_28 = o_27) a w) ?_ ?_
    ·refine sq (rg (ra [(1, 0, 0, 0)] (fc (fun W => run_rem (T := 3) (k := .i64) (p := v_20) (q := 2) (by decide) W) f0) [(12, B ((Int.tmod v_20 2) == 1))] (tN ?_))); rcases ic hG with ⟨h_25, hG⟩ | ⟨h_25, hG⟩
     ·refine sb 12 (bt h_25) (ct ?_); obtain ⟨v_26, hy_26, hG⟩ := bs hG; exact rg (ra [(4, 0, 0, 0)] (fc (fun W => run_rem (T := 3) (k := .i64) (p := IntKind.i64.wrap (v_22 * v_19)) (q := v_21) (nz_of (whenG_some hy_26).1) W) f0) [(7, I (Int.tmod (IntKind.i64.wrap (v_22 * v_19)) v_21))] (tN (fun _ _ S k e => ⟨Int.tmod (IntKind.i64.wrap (v_22 * v_19)) v_21, S, k.wk, e.sel [], oi hG⟩)))
     ·exact sb 12 (bf h_25) (cf (kS (tN (fun _ _ S k e => ⟨v_22, S, k.wk, e.sel [], oi hG⟩))))
    ·rintro a w ⟨v_28, hJ⟩; refine hJ.go ?_; clear hJ; rintro rfl; replace hG := hG_27; refine sq ?_; obtain ⟨v_29, hy_29, hG⟩ := bs hG; exact rg (ra [(4, 0, 0, 0)] (fc (fun W => run_rem (T := 3) (k := .i64) (p := IntKind.i64.wrap (v_19 * v_19)) (q := v_21) (nz_of (whenG_some hy_29).1) W) f0) [(0, I (Int.tmod (IntKind.i64.wrap (v_19 * v_19)) v_21))] (tN (rg (ra [(1, 0, 0, 0)] (fc (fun W => run_quo (T := 3) (k := .i64) (p := v_20) (q := 2) (by decide) W) f0) [(1, I (IntKind.i64.wrap (Int.tdiv v_20 2)))] (hN (tN (fun a w S hK hE => ⟨m_23, ⟨Int.tmod (IntKind.i64.wrap (v_19 * v_19)) v_21, IntKind.i64.wrap (Int.tdiv v_20 2), v_21, v_28, S, hK.wk, hE.sel [], hO1_23 _ (oi hG).symm⟩, Nat.lt_succ_self _⟩)))))))
   ·refine sb 9 (bf h_24) (cf (kX (tX (tX ?_)))); have he_ := hO2_23 _ (oi hG).symm; subst he_; replace hG := hG_23; exact hH (tN (fun _ _ S k e => ⟨v_22, S, k.wk, e.sel [], oi hG⟩))
 ·rintro a w ⟨v_32, hJ⟩; refine hJ.go ?_; clear hJ; rintro rfl; replace hG := hG_31; refine sq (rg (ra [] f0 [(6, I v_32)] (tN (kR ?_)))); obtain rfl := oi hG; exact rt []
def G8 (F : Nat) (p_0 : List Int) (p_1 : List Int) : Option (Bool) :=
  ifB (((p_0.length : Int) == (p_1.length : Int)))
    (Option.bind (Option.bind (iter (σ := Int) (ρ := Unit ⊕ Unit) (fun (v_19 : Int) => 
          (ifB (decide (v_19 < (p_0.length : Int)))
            (Option.bind (ixI p_0 v_19) (fun v_22 =>
            Option.bind (ixI p_1 v_19) (fun v_25 =>
            ifB ((v_22 == v_25))
              (some (.inl (IntKind.i64.wrap (v_19 + 1))))
              (some (.inr (.inr ()))))))
            (some (.inr (.inl ()))) : Option (Int ⊕ (Unit ⊕ Unit)))) F 0) (Sum.elim (fun (_ : Unit) => 
        some (.inl ())) (fun (_ : Unit) => 
        some (.inr ()))) : Option (Unit ⊕ Unit)) (Sum.elim (fun (_ : Unit) => 
      some true) (fun (_ : Unit) => 
      some false)))
    (some false)
theorem zag (F : Nat) (p_0_A : Option Addr) (p_0_c : Nat) (p_0 : List Int) (p_1_A : Option Addr) (p_1_c : Nat) (p_1 : List Int) (r : Bool) (hG : G8 F p_0 p_1 = some r) :
  Cf Tryz.prog 17 [.slice p_0_A p_0.length p_0_c, .slice p_1_A p_1.length p_1_c] [RowC p_0_A p_0_c c_i64 tr p_0, RowC p_1_A p_1_c c_i64 tr p_1] (B r) := by
 unfold G8 at hG
 try simp only [lm_, Kd.n_Hops] at hG
 refine fi Tryz.func17 rfl rfl (mr tr_mv (mr tr_mv m0)) fun S0 w0 hT => sq (rg (ra [] f0 [] (tN (sq (sq (rg (ra [] f0 [(10, B (!((p_0.length : Int) == (p_1.length : Int))))] (tN ?_))))))))
 rcases ic hG with ⟨h_1, hG⟩ | ⟨h_1, hG⟩
 ·try simp only [lm_, Kd.n_Hops] at h_1
  refine sb 10 (nt h_1) (cf (kS (tN ?_))); obtain ⟨o_29, hG, hG_29⟩ := bs hG; refine jn (fun K E a w => Js S0 w0 26 (K) (se E []) (.inl () = o_29) a w) ?_ ?_
  ·refine sq (rg (ra [] f0 [(5, I 0)] (tN (bk ?_)))); obtain ⟨e_20, hL, hG_20⟩ := bs hG; clear hG; obtain ⟨stp_20, hs_20, hL⟩ := iter_gen hL; refine lp (fun K E n_ a w => ∃ v_19 : Int, Js S0 w0 26 ([(5, I v_19)] ++ K) (se E [0, 1]) (iter stp_20 n_ v_19 = some e_20) a w) F ?_ ?_
   ·exact fun _ _ S k e => ⟨0, S, k.wk, e.sel [0, 1], hL⟩
   ·clear hL; rintro n_20 a w ⟨v_19, hJ⟩; refine hJ.go fun hL => ?_
    clear hJ; obtain ⟨m_20, o_20, rfl, hG, hO1_20, hO2_20⟩ := iter_step hL; clear hL; rw [hs_20] at hG; refine sq (sq (rg (ra [] f0 [(14, B (decide (v_19 < (p_0.length : Int))))] (tN ?_)))); rcases ic hG with ⟨h_21, hG⟩ | ⟨h_21, hG⟩
    ·try simp only [lm_, Kd.n_Hops] at h_21
     refine sb 14 (bt h_21) (ct (kS (tN (sq (bk (sq ?_)))))); obtain ⟨v_22, hy_22, hG⟩ := bs hG; obtain ⟨v_25, hy_25, hG⟩ := bs hG; refine qb (fx inf22 (gd' (RowC p_0_A p_0_c c_i64 tr p_0) 0) hy_22 fun b_23 o_24 hi_22 => fx inf22 (gd' (RowC p_1_A p_1_c c_i64 tr p_1) 2) hy_25 fun b_26 o_27 hi_25 => qa [(2, 0, 0, 0), (0, 1, 1, 0), (2, 0, 0, 0), (0, 1, 0, 0)] (fc (hi_22 .i64) (fc (hi_25 .i64) f0)) [(25, B (!(v_22 == v_25)))] (tN ?_)); rcases ic hG with ⟨h_28, hG⟩ | ⟨h_28, hG⟩
     ·exact sb 25 (nt h_28) (cf (kS (hN (tN (rg (ra [] f0 [(5, I (IntKind.i64.wrap (v_19 + 1)))] (tN (fun a w S hK hE => ⟨m_20, ⟨IntKind.i64.wrap (v_19 + 1), S, hK.wk, hE.sel [2, 3], hO1_20 _ (oi hG).symm⟩, Nat.lt_succ_self _⟩))))))))
     ·refine sb 25 (nf h_28) (ct (sq (rg (ra [] f0 [(4, B false)] (tN (kR (hR (tR (tR ?_))))))))); have he_ := hO2_20 _ (oi hG).symm; subst he_; replace hG := hG_20; refine hR (tR ?_); obtain rfl := oi hG; replace hG := hG_29; obtain rfl := oi hG; exact rt []
    ·try simp only [lm_, Kd.n_Hops] at h_21
     refine sb 14 (bf h_21) (cf (kX (tX (tX ?_)))); have he_ := hO2_20 _ (oi hG).symm; subst he_; replace hG := hG_20; exact hH (tN (fun _ _ S k e => ⟨S, k.wk, e.sel [], oi hG⟩))
  ·rintro a w hJ; refine hJ.go ?_; clear hJ; rintro rfl; replace hG := el hG_29; refine sq (rg (ra [] f0 [(4, B true)] (tN (kR ?_)))); obtain rfl := oi hG; exact rt []
 ·try simp only [lm_, Kd.n_Hops] at h_1
  refine sb 10 (nf h_1) (ct (sq (rg (ra [] f0 [(4, B false)] (tN (kR (tR ?_))))))); obtain rfl := oi hG; exact rt []
def Gq (F : Nat) (p_0 : Kc) : Option (Int) :=
 Option.bind (Gax F ([p_0.Office, p_0.Size, IntKind.i64.wrap (Int.fdiv p_0.Root (2 ^ 32)), IntKind.i64.wrap (bits BinOp.and IntKind.u64 p_0.Root 4294967295), p_0.Sig.C, p_0.Sig.S] : List Int)) (fun v_3 =>
 some v_3)
theorem zaf (F : Nat) (p_0 : Kc) (r : Int) (hG : Gq F p_0 = some r) :
  Cf Tryz.prog 30 [.agg #[I p_0.Office, I p_0.Size, U p_0.Root, I p_0.Sig.C, I p_0.Sig.S]] [] (U r) := by
 unfold Gq at hG; refine fi Tryz.func30 rfl rfl m0 fun S0 w0 hT => sq (rg (l1 (nw 1 vp [I p_0.Office, I p_0.Size, U p_0.Root, I p_0.Sig.C, I p_0.Sig.S] 27 fun g_1 => ra [] f0 [] (tN (sq ?_)))))
 obtain ⟨v_3, hy_3, hG⟩ := bs hG; refine rg (rn 18 [(1, 1, 0, 0), (1, 1, 0, 1), (1, 1, 0, 2), (3, 1, 0, 2), (4, 1, 0, 3), (2, 1, 0, 4)] f0 [(4, I p_0.Office), (6, I p_0.Size), (10, I (IntKind.i64.wrap (Int.fdiv p_0.Root (2 ^ 32)))), (14, I (IntKind.i64.wrap (bits BinOp.and IntKind.u64 p_0.Root 4294967295))), (17, I p_0.Sig.C), (20, I p_0.Sig.S)] (l1 (nw 21 (vs 6) [I p_0.Office, I p_0.Size, I (IntKind.i64.wrap (Int.fdiv p_0.Root (2 ^ 32))), I (IntKind.i64.wrap (bits BinOp.and IntKind.u64 p_0.Root 4294967295)), I p_0.Sig.C, I p_0.Sig.S] 3 fun g_2 => l1 (cl 22 (za1 F (some ⟨g_2, 0, none⟩) 6 ([p_0.Office, p_0.Size, IntKind.i64.wrap (Int.fdiv p_0.Root (2 ^ 32)), IntKind.i64.wrap (bits BinOp.and IntKind.u64 p_0.Root 4294967295), p_0.Sig.C, p_0.Sig.S] : List Int) _ hy_3) hT ⟨ba 0 et.a, trivial⟩ (ra [] f0 [(2, U v_3)] (tN (kR ?_))))))); obtain rfl := oi hG; exact rt []
def Gn (F : Nat) (p_0 : Int) : Option (Int) :=
 some (IntKind.i64.wrap (1 + (IntKind.i64.wrap (Int.tmod p_0 1073741788))))
theorem zb (F : Nat) (p_0 : Int) (r : Int) (hG : Gn F p_0 = some r) :
  Cf Tryz.prog 23 [U p_0] [] (I r) := by
 unfold Gn at hG; refine fi Tryz.func23 rfl rfl m0 fun S0 w0 hT => sq (rg (ra [] f0 [] (tN (sq (rg (ra [(1, 0, 0, 0)] (fc (fun W => run_rem (T := 23) (k := .u64) (p := p_0) (q := 1073741788) (by decide) W) f0) [(2, I (IntKind.i64.wrap (1 + (IntKind.i64.wrap (Int.tmod p_0 1073741788)))))] (tN (kR ?_))))))))
 obtain rfl := oi hG; exact rt []
def Gaq (F : Nat) (p_0 : Kt) (p_1 : Int) (p_2 : Int) : Option (Int × Int × Int × Int × Bool) :=
 Option.bind (Option.bind (ixI p_0.l (Int.tmod (IntKind.i64.wrap p_1) 3)) (fun v_2 =>
  ifB (((v_2.Entries.length : Int) == 0))
   (some (p_2, true, Int.tmod (IntKind.i64.wrap p_2) 3))
   (Option.bind (ixI p_0.l (Int.tmod (IntKind.i64.wrap p_2) 3)) (fun v_6 =>
   some (p_2, ((v_6.Entries.length : Int) == 0), Int.tmod (IntKind.i64.wrap p_2) 3)))) : Option ((Int × Bool × Int))) (un3 fun (v_10 : Int) (v_11 : Bool) (v_12 : Int) =>
  ifB (v_11)
   (some (0, 0, 0, 0, false))
   (Option.bind (ixI p_0.l (Int.tmod (IntKind.i64.wrap p_1) 3)) (fun v_14 =>
   Option.bind (whenG (!((v_14.Entries.length : Int) == 0)) ()) (fun v_17 =>
   Option.bind (ixI p_0.l v_12) (fun v_18 =>
   Option.bind (whenG (!((v_18.Entries.length : Int) == 0)) ()) (fun v_21 =>
   some (Int.tmod (IntKind.i64.wrap p_1) 3, Int.tmod (IntKind.i64.wrap (Int.tdiv (IntKind.i64.wrap p_1) 3)) (v_14.Entries.length : Int), v_12, Int.tmod (IntKind.i64.wrap (Int.tdiv (IntKind.i64.wrap v_10) 3)) (v_18.Entries.length : Int), true)))))))
theorem zaz (F : Nat) (p_0 : Kh) (p_1 : Int) (p_2 : Int) (r : Int × Int × Int × Int × Bool) (hG : Gaq F p_0.p p_1 p_2 = some r) :
  Cf Tryz.prog 29 [.agg #[.slice p_0.l_A p_0.l.length p_0.l_c, .slice p_0.when.f0_A p_0.when.f0.length p_0.when.f0_c, .slice p_0.when.f1_A p_0.when.f1.length p_0.when.f1_c, .slice p_0.when.f2_A p_0.when.f2.length p_0.when.f2_c, .slice p_0.heads_A p_0.heads.length p_0.heads_c, .slice p_0.pubs_A p_0.pubs.length p_0.pubs_c, B p_0.ok_], .int .u16 p_1, .int .u16 p_2] [Kh.ok p_0] (.tuple #[I r.1, I r.2.1, I r.2.2.1, I r.2.2.2.1, B r.2.2.2.2]) := by
 unfold Gaq at hG
 try simp only [lm_, Kd.n_Hops, Kh.n_l] at hG
 refine fi Tryz.func29 rfl rfl (mc Kh.mv m0) fun S0 w0 hT => sq (rg (l1 (nw 3 vp [.slice p_0.l_A p_0.l.length p_0.l_c, .slice p_0.when.f0_A p_0.when.f0.length p_0.when.f0_c, .slice p_0.when.f1_A p_0.when.f1.length p_0.when.f1_c, .slice p_0.when.f2_A p_0.when.f2.length p_0.when.f2_c, .slice p_0.heads_A p_0.heads.length p_0.heads_c, .slice p_0.pubs_A p_0.pubs.length p_0.pubs_c, B p_0.ok_] 71 fun g_1 => ra [] f0 [] (tN (sq (rg (ra [(2, 0, 0, 0), (2, 0, 0, 0)] (fc (fun W => run_rem (T := 3) (k := .i64) (p := IntKind.i64.wrap p_1) (q := 3) (by decide) W) (fc (fun W => run_rem (T := 3) (k := .i64) (p := IntKind.i64.wrap p_2) (q := 3) (by decide) W) f0)) [(6, I (Int.tmod (IntKind.i64.wrap p_1) 3)), (8, I (Int.tmod (IntKind.i64.wrap p_2) 3))] (tN (sq ?_)))))))))
 obtain ⟨o_9, hG, hG_9⟩ := bs hG; refine jn (fun K E a w => ∃ (v_10 : Int) (v_11 : Bool) (v_12 : Int), Js S0 w0 59 ([(2, .int .u16 v_10), (8, I v_12), (34, B v_11)] ++ K) ([.dat (RowC p_0.l_A p_0.l_c Ka.cells Ka.ok p_0.l), .dat (RowC p_0.when.f0_A p_0.when.f0_c c_i64 tr p_0.when.f0), .dat (RowC p_0.when.f1_A p_0.when.f1_c c_i64 tr p_0.when.f1), .dat (RowC p_0.when.f2_A p_0.when.f2_c c_i64 tr p_0.when.f2), .dat (RowC p_0.heads_A p_0.heads_c Kc.cells tr p_0.heads), .dat (RowC p_0.pubs_A p_0.pubs_c c_i64 tr p_0.pubs)] ++ se E [0]) ((v_10, v_11, v_12) = o_9) a w) ?_ ?_
 ·obtain ⟨v_2o, hy_2, hG⟩ := bs hG; replace hG := ic hG; rcases hG with ⟨h_5, hG⟩ | ⟨h_5, hG⟩
  ·refine rg (fxn (p := Ka.p) inf38 (gm (Kh.ok p_0) 1 fun _ _ h => h.f_l) hy_2 fun v_2 b_3 o_4 he_2 hi_2 => ?_); subst he_2
   try simp only [lm_, Kd.n_Hops, Kh.n_l] at hG
   refine rn 9 [(1, 1, 2, 0), (1, 0, 0, 0), (1, 1, 0, 1)] (fc (hi_2 .i64) f0) [(25, B ((v_2.Entries.length : Int) == 0))] ?_
   try simp only [lm_, Kd.n_Hops, Kh.n_l] at h_5
   exact sb 25 (bt h_5) (ra [] f0 [(34, B true)] (tN (fg (Kh.ok p_0) 3 (fun _ _ h => h.f_l) (fg (Kh.ok p_0) 4 (fun _ _ h => h.b_when.f_f0) (fg (Kh.ok p_0) 5 (fun _ _ h => h.b_when.f_f1) (fg (Kh.ok p_0) 6 (fun _ _ h => h.b_when.f_f2) (fg (Kh.ok p_0) 7 (fun _ _ h => h.f_heads) (fg (Kh.ok p_0) 8 (fun _ _ h => h.f_pubs) (fun _ _ S k e => ⟨p_2, true, Int.tmod (IntKind.i64.wrap p_2) 3, S, k.wk, e.sel [5, 4, 3, 2, 1, 0, 8], oi hG⟩)))))))))
  ·replace hG := bs hG; obtain ⟨v_6o, hy_6, hG⟩ := hG; refine rg (fxn (p := Ka.p) inf38 (gm (Kh.ok p_0) 1 fun _ _ h => h.f_l) hy_2 fun v_2 b_3 o_4 he_2 hi_2 => ?_); subst he_2
   try simp only [lm_, Kd.n_Hops, Kh.n_l] at hG
   refine rn 9 [(1, 1, 2, 0), (1, 0, 0, 0), (1, 1, 0, 1)] (fc (hi_2 .i64) f0) [(25, B ((v_2.Entries.length : Int) == 0))] ?_
   try simp only [lm_, Kd.n_Hops, Kh.n_l] at h_5
   refine sb 25 (bf h_5) (fxn (p := Ka.p) inf38 (gm (Kh.ok p_0) 3 fun _ _ h => h.f_l) hy_6 fun v_6 b_7 o_8 he_6 hi_6 => ?_); subst he_6
   try simp only [lm_, Kd.n_Hops, Kh.n_l] at hG
   exact ra [(1, 1, 4, 0), (1, 0, 0, 0), (1, 1, 0, 1)] (fc (hi_6 .i64) f0) [(34, B ((v_6.Entries.length : Int) == 0))] (tN (fg (Kh.ok p_0) 5 (fun _ _ h => h.f_l) (fg (Kh.ok p_0) 6 (fun _ _ h => h.b_when.f_f0) (fg (Kh.ok p_0) 7 (fun _ _ h => h.b_when.f_f1) (fg (Kh.ok p_0) 8 (fun _ _ h => h.b_when.f_f2) (fg (Kh.ok p_0) 9 (fun _ _ h => h.f_heads) (fg (Kh.ok p_0) 10 (fun _ _ h => h.f_pubs) (fun _ _ S k e => ⟨p_2, ((v_6.Entries.length : Int) == 0), Int.tmod (IntKind.i64.wrap p_2) 3, S, k.wk, e.sel [5, 4, 3, 2, 1, 0, 10], oi hG⟩))))))))
 ·rintro a w ⟨v_10, v_11, v_12, hJ⟩; refine hJ.go ?_; clear hJ; rintro rfl; replace hG := hG_9; rcases ic hG with ⟨h_13, hG⟩ | ⟨h_13, hG⟩
  ·refine sb 34 (bt h_13) (ct (sq (rg (ra [] f0 (ns 6 [I 0, I 0, I 0, I 0, B false]) (tN (kR (tR ?_))))))); obtain rfl := oi hG; exact rt []
  ·refine sb 34 (bf h_13) (cf (kS (tN (sq ?_)))); obtain ⟨v_14o, hy_14, hG⟩ := bs hG; replace hG := bs hG; obtain ⟨v_17, hy_17, hG⟩ := hG; replace hG := bs hG; obtain ⟨v_18o, hy_18, hG⟩ := hG; replace hG := bs hG; obtain ⟨v_21, hy_21, hG⟩ := hG; refine qb (fxn (p := Ka.p) inf38 (gd' (RowC p_0.l_A p_0.l_c Ka.cells Ka.ok p_0.l) 0) hy_14 fun v_14 b_15 o_16 he_14 hi_14 => ?_); subst he_14
   try simp only [lm_, Kd.n_Hops, Kh.n_l] at hG
   refine fxn (p := Ka.p) inf38 (gd' (RowC p_0.l_A p_0.l_c Ka.cells Ka.ok p_0.l) 2) hy_18 fun v_18 b_19 o_20 he_18 hi_18 => ?_
   subst he_18
   try simp only [lm_, Kd.n_Hops, Kh.n_l] at hG
   refine qa [(3, 0, 0, 0), (1, 1, 10, 0), (1, 0, 0, 0), (1, 1, 2, 1), (1, 0, 0, 0), (3, 0, 0, 0), (1, 1, 10, 0), (1, 0, 0, 0), (1, 1, 0, 1), (1, 0, 0, 0)] (fc (fun W => run_quo (T := 3) (k := .i64) (p := IntKind.i64.wrap p_1) (q := 3) (by decide) W) (fc (hi_14 .i64) (fc (fun W => run_rem (T := 3) (k := .i64) (p := IntKind.i64.wrap (Int.tdiv (IntKind.i64.wrap p_1) 3)) (q := (v_14.Entries.length : Int)) (nz_of (whenG_some hy_17).1) W) (fc (fun W => run_quo (T := 3) (k := .i64) (p := IntKind.i64.wrap v_10) (q := 3) (by decide) W) (fc (hi_18 .i64) (fc (fun W => run_rem (T := 3) (k := .i64) (p := IntKind.i64.wrap (Int.tdiv (IntKind.i64.wrap v_10) 3)) (q := (v_18.Entries.length : Int)) (nz_of (whenG_some hy_21).1) W) f0)))))) (ns 6 [I (Int.tmod (IntKind.i64.wrap p_1) 3), I (Int.tmod (IntKind.i64.wrap (Int.tdiv (IntKind.i64.wrap p_1) 3)) (v_14.Entries.length : Int)), I v_12, I (Int.tmod (IntKind.i64.wrap (Int.tdiv (IntKind.i64.wrap v_10) 3)) (v_18.Entries.length : Int)), B true]) (tN (kR ?_)); obtain rfl := oi hG; exact rt []
def Gz (F : Nat) (p_0 : Int) : Option (Bool) :=
  Option.bind (ifB (decide (0 < p_0))
      (ifB (decide (p_0 < 2147483579))
        (Option.bind (Gf F p_0 1073741789) (fun v_3 =>
        some (v_3 == 1)))
        (some false))
      (some false) : Option (Bool)) (fun (v_5 : Bool) => 
    some v_5)
theorem zu (F : Nat) (p_0 : Int) (r : Bool) (hG : Gz F p_0 = some r) :
  Cf Tryz.prog 157 [I p_0] [] (B r) := by
 unfold Gz at hG; refine fi Tryz.func157 rfl rfl m0 fun S0 w0 hT => sq (rg (ra [] f0 [] (tN ?_)))
 obtain ⟨o_4, hG, hG_4⟩ := bs hG; refine jn (fun K E a w => ∃ v_5 : Bool, Js S0 w0 14 ([(2, B v_5)] ++ K) (se E []) (v_5 = o_4) a w) ?_ ?_
 ·rcases ic hG with ⟨h_1, hG⟩ | ⟨h_1, hG⟩
  ·rcases ic hG with ⟨h_2, hG⟩ | ⟨h_2, hG⟩
   ·obtain ⟨v_3, hy_3, hG⟩ := bs hG; exact rg (rn 3 [] f0 [(5, B (decide (0 < p_0)))] (sb 5 (bt h_1) (rn 4 [] f0 [(9, B (decide (p_0 < 2147483579)))] (sb 9 (bt h_2) (rn 1 [] f0 [(10, I p_0)] (l1 (cl 11 (zr F p_0 1073741789 _ hy_3) hT trivial (ra [] f0 [(2, B (v_3 == 1))] (tN (fun _ _ S k e => ⟨(v_3 == 1), S, k.wk, e.sel [], oi hG⟩))))))))))
   ·exact rg (rn 3 [] f0 [(5, B (decide (0 < p_0)))] (sb 5 (bt h_1) (rn 4 [] f0 [(9, B (decide (p_0 < 2147483579)))] (sb 9 (bf h_2) (ra [] f0 [(2, B false)] (tN (fun _ _ S k e => ⟨false, S, k.wk, e.sel [], oi hG⟩)))))))
  ·exact rg (rn 3 [] f0 [(5, B (decide (0 < p_0)))] (sb 5 (bf h_1) (ra [] f0 [(2, B false)] (tN (fun _ _ S k e => ⟨false, S, k.wk, e.sel [], oi hG⟩)))))
 ·rintro a w ⟨v_5, hJ⟩; refine hJ.go ?_; clear hJ; rintro rfl; replace hG := hG_4; refine kR ?_; obtain rfl := oi hG; exact rt []
def Gt (F : Nat) (p_0 : Kc) : Option (Bool) :=
 Option.bind (Option.bind (Gb F p_0.Office 1 16) (fun v_2 =>
  ifB (v_2)
   (Option.bind (Gb F p_0.Size 1 4096) (fun v_4 =>
   ifB (v_4)
    (Option.bind (Gb F p_0.Sig.C 0 1073741788) (fun v_6 =>
    ifB (v_6)
     (Option.bind (Gb F p_0.Sig.S 0 1073741788) (fun v_8 =>
     some v_8))
     (some false)))
    (some false)))
   (some false)) : Option (Bool)) (fun (v_10 : Bool) =>
  some v_10)
theorem zh (F : Nat) (p_0 : Kc) (r : Bool) (hG : Gt F p_0 = some r) :
  Cf Tryz.prog 63 [.agg #[I p_0.Office, I p_0.Size, U p_0.Root, I p_0.Sig.C, I p_0.Sig.S]] [] (B r) := by
 unfold Gt at hG; refine fi Tryz.func63 rfl rfl m0 fun S0 w0 hT => sq (rg (l1 (nw 1 vp [I p_0.Office, I p_0.Size, U p_0.Root, I p_0.Sig.C, I p_0.Sig.S] 27 fun g_1 => ra [] f0 [] (tN ?_))))
 obtain ⟨o_9, hG, hG_9⟩ := bs hG; refine jn (fun K E a w => ∃ v_10 : Bool, Js S0 w0 23 ([(2, B v_10)] ++ K) (se E []) (v_10 = o_9) a w) ?_ ?_
 ·obtain ⟨v_2, hy_2, hG⟩ := bs hG; rcases ic hG with ⟨h_3, hG⟩ | ⟨h_3, hG⟩
  ·obtain ⟨v_4, hy_4, hG⟩ := bs hG; rcases ic hG with ⟨h_5, hG⟩ | ⟨h_5, hG⟩
   ·obtain ⟨v_6, hy_6, hG⟩ := bs hG; rcases ic hG with ⟨h_7, hG⟩ | ⟨h_7, hG⟩
    ·obtain ⟨v_8, hy_8, hG⟩ := bs hG; exact rg (rn 2 [(1, 1, 0, 0)] f0 [(4, I p_0.Office)] (l1 (cl 5 (zf F p_0.Office 1 16 _ hy_2) hT trivial (rn 1 [] f0 [(6, B v_2)] (sb 6 (bt h_3) (rn 2 [(1, 1, 0, 1)] f0 [(8, I p_0.Size)] (l1 (cl 9 (zf F p_0.Size 1 4096 _ hy_4) hT trivial (rn 2 [] f0 [(11, B v_4)] (sb 11 (bt h_5) (rn 3 [(2, 1, 0, 3)] f0 [(14, I p_0.Sig.C)] (l1 (cl 15 (zf F p_0.Sig.C 0 1073741788 _ hy_6) hT trivial (rn 2 [] f0 [(17, B v_6)] (sb 17 (bt h_7) (rn 3 [(2, 1, 0, 4)] f0 [(20, I p_0.Sig.S)] (l1 (cl 21 (zf F p_0.Sig.S 0 1073741788 _ hy_8) hT trivial (ra [] f0 [(2, B v_8)] (tN (fun _ _ S k e => ⟨v_8, S, k.wk, e.sel [], oi hG⟩)))))))))))))))))))))
    ·exact rg (rn 2 [(1, 1, 0, 0)] f0 [(4, I p_0.Office)] (l1 (cl 5 (zf F p_0.Office 1 16 _ hy_2) hT trivial (rn 1 [] f0 [(6, B v_2)] (sb 6 (bt h_3) (rn 2 [(1, 1, 0, 1)] f0 [(8, I p_0.Size)] (l1 (cl 9 (zf F p_0.Size 1 4096 _ hy_4) hT trivial (rn 2 [] f0 [(11, B v_4)] (sb 11 (bt h_5) (rn 3 [(2, 1, 0, 3)] f0 [(14, I p_0.Sig.C)] (l1 (cl 15 (zf F p_0.Sig.C 0 1073741788 _ hy_6) hT trivial (rn 2 [] f0 [(17, B v_6)] (sb 17 (bf h_7) (ra [] f0 [(2, B false)] (tN (fun _ _ S k e => ⟨false, S, k.wk, e.sel [], oi hG⟩))))))))))))))))))
   ·exact rg (rn 2 [(1, 1, 0, 0)] f0 [(4, I p_0.Office)] (l1 (cl 5 (zf F p_0.Office 1 16 _ hy_2) hT trivial (rn 1 [] f0 [(6, B v_2)] (sb 6 (bt h_3) (rn 2 [(1, 1, 0, 1)] f0 [(8, I p_0.Size)] (l1 (cl 9 (zf F p_0.Size 1 4096 _ hy_4) hT trivial (rn 2 [] f0 [(11, B v_4)] (sb 11 (bf h_5) (ra [] f0 [(2, B false)] (tN (fun _ _ S k e => ⟨false, S, k.wk, e.sel [], oi hG⟩)))))))))))))
  ·exact rg (rn 2 [(1, 1, 0, 0)] f0 [(4, I p_0.Office)] (l1 (cl 5 (zf F p_0.Office 1 16 _ hy_2) hT trivial (rn 1 [] f0 [(6, B v_2)] (sb 6 (bf h_3) (ra [] f0 [(2, B false)] (tN (fun _ _ S k e => ⟨false, S, k.wk, e.sel [], oi hG⟩))))))))
 ·rintro a w ⟨v_10, hJ⟩; refine hJ.go ?_; clear hJ; rintro rfl; replace hG := hG_9; refine kR ?_; obtain rfl := oi hG; exact rt []
def Gu (F : Nat) (p_0 : Kr) : Option (Bool) :=
 Option.bind (Gag F p_0.Entry.Stamp) (fun v_2 =>
 some v_2)
theorem zk (F : Nat) (p_0 : Kr) (r : Bool) (hG : Gu F p_0 = some r) :
  Cf Tryz.prog 113 [.agg #[U p_0.Entry.Doc, I p_0.Entry.Stamp.Lo, I p_0.Entry.Stamp.Hi]] [] (B r) := by
 unfold Gu at hG; refine fi Tryz.func113 rfl rfl m0 fun S0 w0 hT => sq (rg (l1 (nw 1 vp [U p_0.Entry.Doc, I p_0.Entry.Stamp.Lo, I p_0.Entry.Stamp.Hi] 165 fun g_1 => ra [] f0 [] (tN (sq ?_)))))
 obtain ⟨v_2, hy_2, hG⟩ := bs hG; refine rg (rn 3 [(2, 2, 0, 1)] f0 [(5, .agg #[I p_0.Entry.Stamp.Lo, I p_0.Entry.Stamp.Hi])] (l1 (cl 6 (zao F p_0.Entry.Stamp _ hy_2) hT trivial (ra [] f0 [(2, B v_2)] (tN (kR ?_)))))); obtain rfl := oi hG; exact rt []
def Gk (F : Nat) (p_0 : Kb) : Option (Int) :=
 Option.bind (Gav F (⟨p_0⟩ : Kr)) (fun v_2 =>
 some v_2)
theorem zv (F : Nat) (p_0 : Kb) (r : Int) (hG : Gk F p_0 = some r) :
  Cf Tryz.prog 66 [.agg #[U p_0.Doc, I p_0.Stamp.Lo, I p_0.Stamp.Hi]] [] (U r) := by
 unfold Gk at hG; refine fi Tryz.func66 rfl rfl m0 fun S0 w0 hT => sq (rg (l1 (nw 1 vp [U p_0.Doc, I p_0.Stamp.Lo, I p_0.Stamp.Hi] 31 fun g_1 => ra [] f0 [] (tN (sq ?_)))))
 obtain ⟨v_2, hy_2, hG⟩ := bs hG; refine rg (rn 2 [(0, 3, 0, 0)] f0 [(4, .agg #[U p_0.Doc, I p_0.Stamp.Lo, I p_0.Stamp.Hi])] (l1 (cl 5 (zap F (⟨p_0⟩ : Kr) _ hy_2) hT trivial (ra [] f0 [(2, U v_2)] (tN (kR ?_)))))); obtain rfl := oi hG; exact rt []
def Gak (F : Nat) (p_0 : Ks) (p_1 : Kj) : Option ((List Kj)) :=
  Option.bind (Gw F p_1) (fun v_2 =>
  Option.bind (Gd F v_2) (fun v_3 =>
  Option.bind (Option.bind (iter (σ := Int × (List Kj)) (ρ := (List Kj)) (un2 fun (v_211 : Int) (v_212 : (List Kj)) => 
        (ifB (decide (v_211 < (p_0.heads.length : Int)))
          (Option.bind (Option.bind (ixI p_0.heads v_211) (fun v_217 =>
            Option.bind (Option.bind (iter (σ := Int) (ρ := Unit ⊕ Unit) (fun (v_234 : Int) => 
                  (ifB (decide (v_234 < (p_1.heads.length : Int)))
                    (Option.bind (ixI p_1.heads v_234) (fun v_237 =>
                    ifB ((v_237.Office == v_217.Office))
                      (some (.inr (.inr ())))
                      (some (.inl (IntKind.i64.wrap (v_234 + 1))))))
                    (some (.inr (.inl ()))) : Option (Int ⊕ (Unit ⊕ Unit)))) F 0) (Sum.elim (fun (_ : Unit) => 
                some (.inl ())) (fun (_ : Unit) => 
                some (.inr ()))) : Option (Unit ⊕ Unit)) (Sum.elim (fun (_ : Unit) => 
              Option.bind (some (mpG p_0.offices v_217.Office Kf.z)) (fun v_243 =>
              Option.bind (slI v_243.Entries 0 v_217.Size) (fun v_244 =>
              Option.bind (Option.bind (Option.bind (iter (σ := Int) (ρ := Unit ⊕ Int) (fun (v_262 : Int) => 
                      (ifB (decide (v_262 < (v_244.length : Int)))
                        (Option.bind (ixI v_244 v_262) (fun v_265 =>
                        Option.bind (some () : Option (Unit)) (fun (_ : Unit) => 
                          ifB ((v_265.Doc == v_3))
                            (some (.inr (.inr v_262)))
                            (some (.inl (IntKind.i64.wrap (v_262 + 1)))))))
                        (some (.inr (.inl ()))) : Option (Int ⊕ (Unit ⊕ Int)))) F 0) (Sum.elim (fun (_ : Unit) => 
                    some (.inl ())) (fun (v_272 : Int) => 
                    some (.inr v_272))) : Option (Unit ⊕ Int)) (Sum.elim (fun (_ : Unit) => 
                  some (-1)) (fun (v_274 : Int) => 
                  some v_274)) : Option (Int)) (fun (v_275 : Int) => 
                ifB (decide (v_275 ≥ 0))
                  (Option.bind (apG 40 ([] : List Kc) p_1.heads) (fun v_308 =>
                  Option.bind (apG 40 p_1.heads ([v_217] : List Kc)) (fun v_310 =>
                  Option.bind (apG 32 v_212 ([(⟨v_310, v_275⟩ : Kj)] : List Kj)) (fun v_312 =>
                  some v_312))))
                  (some v_212))))) (fun (_ : Unit) => 
              some v_212))) : Option ((List Kj))) (fun (v_314 : (List Kj)) => 
            some (.inl (IntKind.i64.wrap (v_211 + 1), v_314))))
          (some (.inr v_212)) : Option ((Int × (List Kj)) ⊕ (List Kj)))) F (0, ([] : List Kj))) (fun (v_317 : (List Kj)) => 
      some v_317) : Option ((List Kj))) (fun (v_321 : (List Kj)) => 
    some v_321)))
theorem zar (F : Nat) (p_0_A : Nat) (p_0 : Kl) (p_1 : Ki) (r : (List Kj)) (hG : Gak F p_0.p p_1.p = some r) :
  Cn Tryz.prog 102 [Pt p_0_A 0, .agg #[.slice p_1.heads_A p_1.heads.length p_1.heads_c, I p_1.at_]] [fun S W => RecS S W p_0_A 0 p_0.cells, Kl.ok p_0, Ki.ok p_1] (fun q : Kz => r = (q.l.map Ki.p)) (fun q => .slice q.A q.l.length q.c) (fun q => [RowC q.A q.c Ki.cells Ki.ok q.l]) := by
 unfold Gak at hG
 try simp only [lm_, Kd.n_Hops] at hG
 refine fin Tryz.func102 rfl rfl (mrec (mc Kl.mv (mc Ki.mv m0))) fun S0 w0 hT => rp p_0_A p_0.cells (gd' (fun S W => RecS S W p_0_A 0 p_0.cells) 0) (sq (rg (l1 (nw 3 vp [.slice p_1.heads_A p_1.heads.length p_1.heads_c, I p_1.at_] 96 fun g_1 => ra [] f0 [] (tN (sc (sq (rg (ra [] f0 [(5, .slice none 0 0)] (tN (sq ?_)))))))))))
 obtain ⟨v_2, hy_2, hG⟩ := bs hG; obtain ⟨v_3, hy_3, hG⟩ := bs hG; refine rg (rn 1 [(0, 2, 0, 0)] f0 [(13, .agg #[.slice p_1.heads_A p_1.heads.length p_1.heads_c, I p_1.at_])] (l1 (cl 14 (zw F p_1 _ hy_2) hT ⟨(gi 4).a, trivial⟩ (l1 (cl 15 (zq F v_2 _ hy_3) hT trivial (l1 (nw 6 vp [U 0] 23 fun g_4 => l1 (sr 0 g_4 [(0, U v_3)] (nl (tN (sq (lb (tN ?_))))))))))))); obtain ⟨o_320, hG, hG_320⟩ := bs hG; refine jn (fun K E a w => ∃ (v_321 : List Ki) (v_322_A : Option Addr) (v_323_c : Nat), Js S0 w0 67 ([(5, .slice v_322_A v_321.length v_323_c)] ++ K) ([.own 96 2 (.slice v_322_A v_321.length v_323_c) v_321.length (v_321.flatMap Ki.cells), .dat (Each Ki.ok v_321)]) ((v_321.map Ki.p) = o_320) a w) ?_ ?_
 ·refine sq (rg (ra [(3, 1, 2, 1)] f0 (ns 19 [.slice p_0.heads_A p_0.heads.length p_0.heads_c, I (p_0.heads.length : Int), I 0]) (tN (bk ?_)))); obtain ⟨e_215, hL, hG_215⟩ := bs hG; clear hG; obtain ⟨stp_215, hs_215, hL⟩ := iter_gen hL; refine lp (fun K E n_ a w => ∃ (v_211 : Int) (v_212 : List Ki) (v_213_A : Option Addr) (v_214_c : Nat), Js S0 w0 67 ([(5, .slice v_213_A v_212.length v_214_c), (21, I v_211)] ++ K) ([.dat (RowC p_1.heads_A p_1.heads_c Kc.cells tr p_1.heads), .own 96 2 (.slice v_213_A v_212.length v_214_c) v_212.length (v_212.flatMap Ki.cells), .dat (Each Ki.ok v_212)] ++ se E [0, 1, 2, 4]) (iter stp_215 n_ (v_211, (v_212.map Ki.p)) = some e_215) a w) F ?_ ?_
  ·exact fg (Ki.ok p_1) 5 (fun _ _ h => h.f_heads) (on 96 2 (fm (Each Ki.ok ([] : List Ki)) e0 (fun _ _ S k e => ⟨0, ([] : List Ki), none, 0, S, k.wk, e.sel [2, 1, 0, 3, 4, 5, 7], hL⟩)))
  ·clear hL; rintro n_215 a w ⟨v_211, v_212, v_213_A, v_214_c, hJ⟩; refine hJ.go fun hL => ?_
   clear hJ; obtain ⟨m_215, o_215, rfl, hG, hO1_215, hO2_215⟩ := iter_step hL; clear hL; rw [hs_215] at hG
   try simp only [lm_, Kd.n_Hops] at hG
   refine sq (rg (ra [] f0 [(22, B (decide (v_211 < (p_0.heads.length : Int))))] (tN (sq ?_)))); rcases ic hG with ⟨h_216, hG⟩ | ⟨h_216, hG⟩
   ·try simp only [lm_, Kd.n_Hops] at h_216
    refine sb 22 (bt h_216) (ct (kS (tN ?_))); obtain ⟨o_313, hG, hG_313⟩ := bs hG; refine jn (fun K E a w => ∃ (v_314 : List Ki) (v_315_A : Option Addr) (v_316_c : Nat), Js S0 w0 67 ([(5, .slice v_315_A v_314.length v_316_c)] ++ K) ([.own 96 2 (.slice v_315_A v_314.length v_316_c) v_314.length (v_314.flatMap Ki.cells), .dat (Each Ki.ok v_314)] ++ se E [0, 3, 4, 5, 6]) ((v_314.map Ki.p) = o_313) a w) ?_ ?_
    ·refine bk (sq ?_); obtain ⟨v_217, hy_217, hG⟩ := bs hG; refine rg (fx inf39 (gm (Kl.ok p_0) 6 fun _ _ h => h.f_heads) hy_217 fun b_218 o_219 hi_217 => rn 2 [(0, 0, 0, 0), (0, 5, 0, 0)] (fc (hi_217 .i64) f0) [(24, .agg #[I v_217.Office, I v_217.Size, U v_217.Root, I v_217.Sig.C, I v_217.Sig.S])] (l1 (nw 8 vp [I 0, I 0, U 0, I 0, I 0] 27 fun g_220 => l1 (sr 0 g_220 (ns 0 [I v_217.Office, I v_217.Size, U v_217.Root, I v_217.Sig.C, I v_217.Sig.S]) (nl (tN ?_)))))); obtain ⟨o_242, hG, hG_242⟩ := bs hG; refine jn (fun K E a w => Js S0 w0 67 (K) (se E [0, 2, 3, 4, 5, 6, 7, 8]) (.inl () = o_242) a w) ?_ ?_
     ·refine sq (rg (ra [(1, 1, 6, 0)] f0 (ns 26 [.slice p_1.heads_A p_1.heads.length p_1.heads_c, I (p_1.heads.length : Int), I 0]) (tN (bk ?_)))); obtain ⟨e_235, hL, hG_235⟩ := bs hG; clear hG; obtain ⟨stp_235, hs_235, hL⟩ := iter_gen hL; refine lp (fun K E n_ a w => ∃ v_234 : Int, Js S0 w0 67 ([(28, I v_234)] ++ K) (se E [0, 2, 3, 4, 5, 6, 7, 8]) (iter stp_235 n_ v_234 = some e_235) a w) F ?_ ?_
      ·exact fun _ _ S k e => ⟨0, S, k.wk, e.sel [0, 2, 3, 4, 5, 6, 7, 8], hL⟩
      ·clear hL; rintro n_235 a w ⟨v_234, hJ⟩; refine hJ.go fun hL => ?_
       clear hJ; obtain ⟨m_235, o_235, rfl, hG, hO1_235, hO2_235⟩ := iter_step hL; clear hL; rw [hs_235] at hG; refine sq (rg (ra [] f0 [(29, B (decide (v_234 < (p_1.heads.length : Int))))] (tN (sq ?_)))); rcases ic hG with ⟨h_236, hG⟩ | ⟨h_236, hG⟩
       ·try simp only [lm_, Kd.n_Hops] at h_236
        refine sb 29 (bt h_236) (ct (kS (tN (sq (bk (sq ?_)))))); obtain ⟨v_237, hy_237, hG⟩ := bs hG; refine rg (fx inf39 (gd' (RowC p_1.heads_A p_1.heads_c Kc.cells tr p_1.heads) 1) hy_237 fun b_238 o_239 hi_237 => rn 2 [(0, 0, 0, 0), (0, 5, 0, 0)] (fc (hi_237 .i64) f0) [(31, .agg #[I v_237.Office, I v_237.Size, U v_237.Root, I v_237.Sig.C, I v_237.Sig.S])] (l1 (nw 10 vp [I 0, I 0, U 0, I 0, I 0] 27 fun g_240 => l1 (sr 0 g_240 (ns 0 [I v_237.Office, I v_237.Size, U v_237.Root, I v_237.Sig.C, I v_237.Sig.S]) (nl (tN (sq (rg (ra [(1, 1, 0, 0), (1, 1, 2, 0)] f0 [(36, B (v_237.Office == v_217.Office))] (tN ?_)))))))))); rcases ic hG with ⟨h_241, hG⟩ | ⟨h_241, hG⟩
        ·refine sb 36 (bt h_241) (ct (kX (hM (tX (tX ?_))))); have he_ := hO2_235 _ (oi hG).symm; subst he_; replace hG := hG_235; refine hM (tX ?_); obtain rfl := oi hG; replace hG := hG_242; exact hH (tN (fun _ _ S k e => ⟨v_212, v_213_A, v_214_c, S, k.wk, e.sel [4, 5, 3, 6, 7, 8, 9], oi hG⟩))
        ·exact sb 36 (bf h_241) (cf (kS (hN (tN (rg (ra [] f0 [(28, I (IntKind.i64.wrap (v_234 + 1)))] (tN (fun a w S hK hE => ⟨m_235, ⟨IntKind.i64.wrap (v_234 + 1), S, hK.wk, hE.sel [2, 3, 4, 5, 6, 7, 8, 9], hO1_235 _ (oi hG).symm⟩, Nat.lt_succ_self _⟩))))))))
       ·try simp only [lm_, Kd.n_Hops] at h_236
        refine sb 29 (bf h_236) (cf (kX (tX (tX ?_)))); have he_ := hO2_235 _ (oi hG).symm; subst he_; replace hG := hG_235; exact hH (tN (fun _ _ S k e => ⟨S, k.wk, e.sel [0, 1, 2, 3, 4, 5, 6, 7], oi hG⟩))
     ·rintro a w hJ; refine hJ.go ?_; clear hJ; rintro rfl; replace hG := el hG_242; refine sq ?_; obtain ⟨v_243o, hy_243, hG⟩ := bs hG; replace hG := bs hG; obtain ⟨v_244, hy_244, hG⟩ := hG; refine hb [0, 1, 2, 3, 4, 5, 6, 7] (ht [0, 1, 2, 3, 4, 5, 6, 7] [0, 1, 2, 3, 4, 5, 8, 9] [(3, 1, 6, 0), (1, 1, 0, 0), (1, 1, 0, 1)] f0 [(41, .map (some p_0.offices_b)), (43, I v_217.Office), (47, I v_217.Size)] (ho [6] ⟨h1 (ml 44 p_0.offices_b p_0.offices v_217.Office Ka.z Ka.p _ hy_243 (gm (Kl.ok p_0) 7 fun _ _ h => h.f_offices) Ka.z_ok Tryz.underlying99 Tryz.underlying3 (fun w => by kernel_rfl) fun v_243 he_243 => ?_), trivial⟩)); subst he_243
      try simp only [lm_, Kd.n_Hops] at hG
      refine hk [1, 2, 3, 4, 5, 6, 7, 8] (ht [1, 2, 3, 4, 5, 6, 7, 8] [7] [] f0 [(45, .slice v_243.Entries_A v_243.Entries.length v_243.Entries_c)] (ho [10] ⟨fp false true inf51 (gm (Ka.ok v_243) 0 fun _ _ h => h.f_Entries) hy_244 fun v_244_A v_244_c hp_244 => h1 (po 48 (.slice v_244_A v_244.length v_244_c) [(0, 0, 0, 0)] (fc (hp_244 .i64 .i64) f0) (hk [2, 3, 4, 5, 6, 7, 8, 9] (ht [2, 3, 4, 5, 6, 7, 8, 9] [11] [] f0 [(11, .slice v_244_A v_244.length v_244_c)] (he (tN (sq ?_)))))), trivial⟩)); obtain ⟨v_275o, hy_276, hG⟩ := bs hG; refine rg (rn 2 [] f0 [(49, .slice v_244_A v_244.length v_244_c), (50, .func (.func 142) #[] #[Pt g_4 0])] (l1 (ci 51 (args := [.slice v_244_A v_244.length v_244_c, .func (.func 142) #[] #[Pt g_4 0]]) (fun E e w => ∃ v_275 : Int, Rs S0 w0 (I v_275) ([.dat (RowC v_243.Entries_A v_243.Entries_c Kb.cells tr v_243.Entries)] ++ se E [0, 2, 3, 4, 5, 6, 7, 8, 9]) (v_275 = v_275o) e w) Tryz.func104 rfl rfl ?_ ?_)))
      ·replace hG := hy_276
       try simp only [lm_, Kd.n_Hops] at hG
       refine sq (rg (ra [] f0 [] (tN ?_))); replace hG := bs hG; obtain ⟨o_305, hG, hG_305⟩ := hG; refine jn (fun K E a w => Js S0 w0 19 (K) ([.dat (RowC v_243.Entries_A v_243.Entries_c Kb.cells tr v_243.Entries)] ++ se E [0, 2, 3, 4, 5, 6, 7, 8, 9]) (.inl () = o_305) a w) ?_ ?_
       ·refine sq (rg (ra [] f0 [(7, I (v_244.length : Int)), (8, I 0)] (tN (bk ?_)))); obtain ⟨e_295, hL, hG_295⟩ := bs hG; clear hG; obtain ⟨stp_295, hs_295, hL⟩ := iter_gen hL; refine lp (fun K E n_ a w => ∃ v_294 : Int, Js S0 w0 19 ([(8, I v_294)] ++ K) ([.dat (RowC v_243.Entries_A v_243.Entries_c Kb.cells tr v_243.Entries)] ++ se E [0, 2, 3, 4, 5, 6, 7, 8, 9]) (iter stp_295 n_ v_294 = some e_295) a w) F ?_ ?_
        ·exact fg (Ka.ok v_243) 1 (fun _ _ h => h.f_Entries) (fun _ _ S k e => ⟨0, S, k.wk, e.sel [0, 1, 3, 4, 5, 6, 7, 8, 9, 10], hL⟩)
        ·clear hL; rintro n_295 a w ⟨v_294, hJ⟩; refine hJ.go fun hL => ?_
         clear hJ; obtain ⟨m_295, o_295, rfl, hG, hO1_295, hO2_295⟩ := iter_step hL; clear hL; rw [hs_295] at hG; refine sq (rg (ra [] f0 [(9, B (decide (v_294 < (v_244.length : Int))))] (tN (sq ?_)))); replace hG := ic hG; rcases hG with ⟨h_296, hG⟩ | ⟨h_296, hG⟩
         ·try simp only [lm_, Kd.n_Hops] at h_296
          refine sb 9 (bt h_296) (ct (kS (tN (sq (bk (sq (rg (ra [] f0 [(5, I v_294)] (tN (sq ?_)))))))))); replace hG := bs hG; obtain ⟨v_297, hy_297, hG⟩ := hG; replace hG := bs hG; obtain ⟨⟨⟩, hy_301, hG⟩ := hG; refine rg (fx inf51 (gd' (RowC v_244_A v_244_c Kb.cells tr v_244) 1) hy_297 fun b_298 o_299 hi_297 => rn 5 [(3, 0, 0, 0), (0, 3, 0, 0)] (fc (hi_297 .i64) f0) [(11, .func (.func 142) #[] #[Pt g_4 0]), (15, .agg #[U v_297.Doc, I v_297.Stamp.Lo, I v_297.Stamp.Hi])] (l1 (ci 16 (args := [.agg #[U v_297.Doc, I v_297.Stamp.Lo, I v_297.Stamp.Hi], Pt g_4 0]) (fun E e w => Rs S0 w0 (B (v_297.Doc == v_3)) (se E [0, 1, 2, 3, 4, 5, 6, 7, 8, 9, 10]) (() = ()) e w) Tryz.func142 rfl rfl ?_ ?_)))
          ·replace hG := hy_301
           try (simp only [lm_, Kd.n_Hops] at hG; replace hG : _ = _ := hG)
           exact sq (rg (l1 (nw 2 vp [U v_297.Doc, I v_297.Stamp.Lo, I v_297.Stamp.Hi] 31 fun g_302 => ra [] f0 [] (tN (sq (rg (ra [(1, 1, 0, 0), (0, 1, 8, 0)] f0 [(3, B (v_297.Doc == v_3))] (tN (kR (ri [] (B (v_297.Doc == v_3)) (fun a w S hK hE => ⟨rfl, ⟨S, hE.sel [1, 2, 3, 4, 5, 6, 7, 8, 9, 10, 11]⟩, oi hG⟩)))))))))))
          ·rintro e w hJ; refine hJ.go fun ho_ => ?_
           clear hJ; refine nl (tN ?_); replace hG := ic hG; rcases hG with ⟨h_303, hG⟩ | ⟨h_303, hG⟩
           ·refine sb 16 (bt h_303) (ct (sq (rg (ra [] f0 [(4, I v_294)] (tN (kR (hR (tR (tR ?_))))))))); have he_ := hO2_295 _ (oi hG).symm; subst he_; replace hG := hG_295; refine hR (tR ?_); obtain rfl := oi hG; replace hG := hG_305; exact ri [] (I v_294) (fun a w S hK hE => ⟨v_294, rfl, ⟨S, hE.sel [1, 2, 3, 4, 5, 6, 7, 8, 9, 10]⟩, oi hG⟩)
           ·exact sb 16 (bf h_303) (cf (kS (hN (tN (rg (ra [] f0 [(8, I (IntKind.i64.wrap (v_294 + 1)))] (tN (fun a w S hK hE => ⟨m_295, ⟨IntKind.i64.wrap (v_294 + 1), S, hK.wk, hE.sel [1, 2, 3, 4, 5, 6, 7, 8, 9, 10], hO1_295 _ (oi hG).symm⟩, Nat.lt_succ_self _⟩))))))))
         ·try simp only [lm_, Kd.n_Hops] at h_296
          refine sb 9 (bf h_296) (cf (kX (tX (tX ?_)))); have he_ := hO2_295 _ (oi hG).symm; subst he_; replace hG := hG_295; exact hH (tN (fun _ _ S k e => ⟨S, k.wk, e.sel [0, 1, 2, 3, 4, 5, 6, 7, 8, 9], oi hG⟩))
       ·rintro a w hJ; refine hJ.go ?_; clear hJ; rintro rfl; replace hG := el hG_305; exact sq (rg (ra [] f0 [(4, I (-1))] (tN (kR (ri [] (I (-1)) (fun a w S hK hE => ⟨(-1), rfl, ⟨S, hE.sel [0, 1, 2, 3, 4, 5, 6, 7, 8, 9]⟩, oi hG⟩))))))
      ·rintro e w ⟨v_275, hJ⟩; refine hJ.go ?_; clear hJ; rintro rfl; refine ra [] f0 [(12, I v_275)] (tN (sq (rg (ra [] f0 [(53, B (decide (v_275 ≥ 0)))] (tN ?_))))); replace hG := ic hG; rcases hG with ⟨h_307, hG⟩ | ⟨h_307, hG⟩
       ·refine sb 53 (bt h_307) (ct ?_); replace hG := bs hG; obtain ⟨v_308, hy_308, hG⟩ := hG; replace hG := bs hG; obtain ⟨v_310, hy_310, hG⟩ := hG; replace hG := bs hG; obtain ⟨v_312o, hy_312, hG⟩ := hG; refine hb [0, 1, 2, 3, 5, 6, 7, 8, 9] (ht [0, 1, 2, 3, 5, 6, 7, 8, 9] [0, 1, 2, 4, 7] [(2, 1, 6, 0), (0, 5, 2, 0)] f0 [(54, .slice v_213_A v_212.length v_214_c), (56, .slice p_1.heads_A p_1.heads.length p_1.heads_c), (58, .agg #[I v_217.Office, I v_217.Size, U v_217.Root, I v_217.Sig.C, I v_217.Sig.S]), (61, I v_275)] (ho [3, 5] ⟨?_, ?_, trivial⟩))
        ·refine h1 (cln_KSapi_Head 57 p_1.heads_A p_1.heads_c p_1.heads (gd' (RowC p_1.heads_A p_1.heads_c Kc.cells tr p_1.heads) 3).a (by first | simpa using (apG_some hy_308).1 | (have hh_ := (apG_some hy_308).1; rw [List.length_nil, Nat.zero_add] at hh_; exact hh_)) fun v_308_A v_308_c => hk [1, 2, 3, 4, 6, 7, 8, 9, 10] (ho [5] ⟨h1 (nw 59 (vs 1) [I v_217.Office, I v_217.Size, U v_217.Root, I v_217.Sig.C, I v_217.Sig.S] 27 fun g_309 => hk [2, 3, 4, 5, 7, 8, 9, 10, 11] (ho [6] ⟨h1 (ap 1 60 v_308_A v_308_c p_1.heads ([v_217] : List Kc) inf39 (bA (f := Kc.cells) (ok := tr) (l := ([v_217] : List Kc)) g_309 0 et.a) hy_310 Kc.one fun v_310_A v_310_c _ => hk [2, 3, 4, 5, 7, 8, 9, 10, 11] (ht [2, 3, 4, 5, 7, 8, 9, 10, 11] [8] [] f0 [(62, .agg #[.slice v_310_A v_310.length v_310_c, I v_275])] (ho [9] ⟨h1 (nw 63 (vs 1) [.slice v_310_A v_310.length v_310_c, I v_275] 96 fun g_311 => hk [3, 4, 5, 6, 8, 9, 10, 11, 12] (ho [10] ⟨so (A := v_310_A) (c := v_310_c) 2 Kc.cells tr v_310 tr_mv et (h1 (apn (p := Ki.p) (ok := Ki.ok) 7 64 v_213_A v_214_c v_212 ([(⟨v_310_A, v_310_c, v_310, v_275⟩ : Ki)] : List Ki) inf157 (bA (f := Ki.cells) (ok := tr) (l := ([(⟨v_310_A, v_310_c, v_310, v_275⟩ : Ki)] : List Ki)) g_311 0 et.a) (gd' (Each Ki.ok v_212) 8) (ec (((gd' (RowC v_310_A v_310_c Kc.cells tr v_310) 2)).m fun _ _ h => ⟨h⟩) e0) hy_312 Ki.one fun v_312 v_312_A v_312_c he_312 _ => ?_)), trivial⟩)), trivial⟩))), trivial⟩)), trivial⟩)); subst he_312
         try simp only [lm_, Kd.n_Hops] at hG
         exact hk [4, 5, 6, 7, 9, 10, 11, 12, 13] (ht [4, 5, 6, 7, 9, 10, 11, 12, 13] [11] [] f0 [(5, .slice v_312_A v_312.length v_312_c)] (he (hN (tN (fun _ _ S k e => ⟨v_312, v_312_A, v_312_c, S, k.wk, e.sel [8, 0, 7, 10, 11, 12, 13], oi hG⟩)))))
        ·refine h1 (nw 59 (vs 1) [I v_217.Office, I v_217.Size, U v_217.Root, I v_217.Sig.C, I v_217.Sig.S] 27 fun g_309 => hk [1, 2, 3, 4, 6, 7, 8, 9, 10] (ho [3] ⟨h1 (cln_KSapi_Head 57 p_1.heads_A p_1.heads_c p_1.heads (gd' (RowC p_1.heads_A p_1.heads_c Kc.cells tr p_1.heads) 4).a (by first | simpa using (apG_some hy_308).1 | (have hh_ := (apG_some hy_308).1; rw [List.length_nil, Nat.zero_add] at hh_; exact hh_)) fun v_308_A v_308_c => hk [2, 3, 4, 5, 7, 8, 9, 10, 11] (ho [6] ⟨h1 (ap 0 60 v_308_A v_308_c p_1.heads ([v_217] : List Kc) inf39 (bA (f := Kc.cells) (ok := tr) (l := ([v_217] : List Kc)) g_309 1 et.a) hy_310 Kc.one fun v_310_A v_310_c _ => hk [2, 3, 4, 5, 7, 8, 9, 10, 11] (ht [2, 3, 4, 5, 7, 8, 9, 10, 11] [8] [] f0 [(62, .agg #[.slice v_310_A v_310.length v_310_c, I v_275])] (ho [9] ⟨h1 (nw 63 (vs 1) [.slice v_310_A v_310.length v_310_c, I v_275] 96 fun g_311 => hk [3, 4, 5, 6, 8, 9, 10, 11, 12] (ho [10] ⟨so (A := v_310_A) (c := v_310_c) 1 Kc.cells tr v_310 tr_mv et (h1 (apn (p := Ki.p) (ok := Ki.ok) 7 64 v_213_A v_214_c v_212 ([(⟨v_310_A, v_310_c, v_310, v_275⟩ : Ki)] : List Ki) inf157 (bA (f := Ki.cells) (ok := tr) (l := ([(⟨v_310_A, v_310_c, v_310, v_275⟩ : Ki)] : List Ki)) g_311 0 et.a) (gd' (Each Ki.ok v_212) 8) (ec (((gd' (RowC v_310_A v_310_c Kc.cells tr v_310) 1)).m fun _ _ h => ⟨h⟩) e0) hy_312 Ki.one fun v_312 v_312_A v_312_c he_312 _ => ?_)), trivial⟩)), trivial⟩))), trivial⟩)), trivial⟩)); subst he_312
         try simp only [lm_, Kd.n_Hops] at hG
         exact hk [4, 5, 6, 7, 9, 10, 11, 12, 13] (ht [4, 5, 6, 7, 9, 10, 11, 12, 13] [11] [] f0 [(5, .slice v_312_A v_312.length v_312_c)] (he (hN (tN (fun _ _ S k e => ⟨v_312, v_312_A, v_312_c, S, k.wk, e.sel [8, 0, 7, 10, 11, 12, 13], oi hG⟩)))))
       ·exact sb 53 (bf h_307) (cf (kS (hN (tN (fun _ _ S k e => ⟨v_212, v_213_A, v_214_c, S, k.wk, e.sel [4, 5, 3, 6, 7, 8, 9], oi hG⟩)))))
    ·rintro a w ⟨v_314, v_315_A, v_316_c, hJ⟩; refine hJ.go ?_; clear hJ; rintro rfl; replace hG := hG_313
     try simp only [lm_, Kd.n_Hops] at hG
     exact rg (ra [] f0 [(21, I (IntKind.i64.wrap (v_211 + 1)))] (tN (fun a w S hK hE => ⟨m_215, ⟨IntKind.i64.wrap (v_211 + 1), v_314, v_315_A, v_316_c, S, hK.wk, hE.sel [2, 0, 1, 3, 4, 5, 6], hO1_215 _ (oi hG).symm⟩, Nat.lt_succ_self _⟩)))
   ·try simp only [lm_, Kd.n_Hops] at h_216
    refine sb 22 (bf h_216) (cf (kX (tX (tX ?_)))); have he_ := hO2_215 _ (oi hG).symm; subst he_; replace hG := hG_215
    try simp only [lm_, Kd.n_Hops] at hG
    exact hH (tN (fun _ _ S k e => ⟨v_212, v_213_A, v_214_c, S, k.wk, e.sel [1, 2], oi hG⟩))
 ·rintro a w ⟨v_321, v_322_A, v_323_c, hJ⟩; refine hJ.go ?_; clear hJ; rintro rfl; replace hG := hG_320
  try simp only [lm_, Kd.n_Hops] at hG
  refine sq (rg (ra [] f0 [(4, .slice v_322_A v_321.length v_323_c)] (tN (kR (gR ?_))))); obtain rfl := oi hG; exact so (A := v_322_A) (c := v_323_c) 0 Ki.cells Ki.ok v_321 Ki.mv (gd' (Each Ki.ok v_321) 1) (rtn [] ⟨v_322_A, v_323_c, v_321⟩ rfl ⟨gi 0, trivial⟩)
def Gae (F : Nat) (p_0 : Int) (p_1 : Int) (p_2 : List Int) : Option (KSig × Int) :=
 Option.bind (Option.bind (Gp F p_0 1) (fun v_2 =>
  ifB (v_2)
   (Option.bind (Gp F p_1 1) (fun v_4 =>
   some (!v_4, p_2)))
   (some (true, p_2))) : Option ((Bool × (List Int)))) (un2 fun (v_6 : Bool) (v_7 : (List Int)) =>
  ifB (v_6)
   (some ((⟨0, 0⟩ : KSig), 1))
   (Option.bind (Gf F 4 p_1) (fun v_11 =>
   Option.bind (Gf F 4 p_0) (fun v_12 =>
   Option.bind (G0 F v_11 v_12 v_7) (fun v_13 =>
   some ((⟨v_13, Int.tmod (IntKind.i64.wrap (p_1 + (IntKind.i64.wrap (v_13 * p_0)))) 1073741789⟩ : KSig), 0))))))
theorem zam (F : Nat) (p_0 : Int) (p_1 : Int) (p_2_A : Option Addr) (p_2_c : Nat) (p_2 : List Int) (r : KSig × Int) (hG : Gae F p_0 p_1 p_2 = some r) :
  Cf Tryz.prog 61 [I p_0, I p_1, .slice p_2_A p_2.length p_2_c] [RowC p_2_A p_2_c c_i64 tr p_2] (.tuple #[.agg #[I r.1.C, I r.1.S], I r.2]) := by
 unfold Gae at hG
 try simp only [lm_, Kd.n_Hops] at hG
 refine fi Tryz.func61 rfl rfl (mr tr_mv m0) fun S0 w0 hT => sq (rg (l1 (nw 6 vp [I 0, I 0] 25 fun g_1 => ra [] f0 [] (tN (sq ?_)))))
 obtain ⟨o_5, hG, hG_5⟩ := bs hG; refine jn (fun K E a w => ∃ (v_6 : Bool) (v_7 : List Int) (v_8_A : Option Addr) (v_9_c : Nat), Js S0 w0 32 ([(2, .slice v_8_A v_7.length v_9_c), (16, B v_6)] ++ K) ([.dat (RowC v_8_A v_9_c c_i64 tr v_7)] ++ se E [0]) ((v_6, v_7) = o_5) a w) ?_ ?_
 ·obtain ⟨v_2, hy_2, hG⟩ := bs hG; rcases ic hG with ⟨h_3, hG⟩ | ⟨h_3, hG⟩
  ·obtain ⟨v_4, hy_4, hG⟩ := bs hG; exact rg (rn 1 [] f0 [(9, I p_0)] (l1 (cl 10 (zn F p_0 1 _ hy_2) hT trivial (rn 2 [] f0 [(12, B (!v_2))] (sb 12 (nt h_3) (rn 1 [] f0 [(13, I p_1)] (l1 (cl 14 (zn F p_1 1 _ hy_4) hT trivial (ra [] f0 [(16, B (!v_4))] (tN (fun _ _ S k e => ⟨!v_4, p_2, p_2_A, p_2_c, S, k.wk, e.sel [1, 0], oi hG⟩)))))))))))
  ·exact rg (rn 1 [] f0 [(9, I p_0)] (l1 (cl 10 (zn F p_0 1 _ hy_2) hT trivial (rn 2 [] f0 [(12, B (!v_2))] (sb 12 (nf h_3) (ra [] f0 [(16, B true)] (tN (fun _ _ S k e => ⟨true, p_2, p_2_A, p_2_c, S, k.wk, e.sel [1, 0], oi hG⟩))))))))
 ·rintro a w ⟨v_6, v_7, v_8_A, v_9_c, hJ⟩; refine hJ.go ?_; clear hJ; rintro rfl; replace hG := hG_5; rcases ic hG with ⟨h_10, hG⟩ | ⟨h_10, hG⟩
  ·refine sb 16 (bt h_10) (ct (sq (rg (rn 1 [] f0 [(17, .agg #[I 0, I 0])] (l1 (sr 1 g_1 [(0, I 0), (1, I 0)] (ra [] f0 [(7, I 1)] (tN (kR (tR ?_)))))))))); obtain rfl := oi hG; exact rt [(1, 0, 2)]
  ·refine sb 16 (bf h_10) (cf (kS (tN (sq ?_)))); obtain ⟨v_11, hy_11, hG⟩ := bs hG; obtain ⟨v_12, hy_12, hG⟩ := bs hG; obtain ⟨v_13, hy_13, hG⟩ := bs hG; refine rg (rn 1 [] f0 [(18, I p_1)] (l1 (cl 19 (zr F 4 p_1 _ hy_11) hT trivial (rn 1 [] f0 [(20, I p_0)] (l1 (cl 21 (zr F 4 p_0 _ hy_12) hT trivial (rn 1 [] f0 [(22, .slice v_8_A v_7.length v_9_c)] (l1 (cl 23 (z8 F v_11 v_12 v_8_A v_9_c v_7 _ hy_13) hT ⟨ga 0, trivial⟩ (ra [] f0 [(8, I v_13)] (tN (sq (rg (rn 8 [(6, 0, 0, 0)] (fc (fun W => run_rem (T := 3) (k := .i64) (p := IntKind.i64.wrap (p_1 + (IntKind.i64.wrap (v_13 * p_0)))) (q := 1073741789) (by decide) W) f0) [(31, .agg #[I v_13, I (Int.tmod (IntKind.i64.wrap (p_1 + (IntKind.i64.wrap (v_13 * p_0)))) 1073741789)])] (l1 (sr 1 g_1 [(0, I v_13), (1, I (Int.tmod (IntKind.i64.wrap (p_1 + (IntKind.i64.wrap (v_13 * p_0)))) 1073741789))] (ra [] f0 [(7, I 0)] (tN (kR ?_))))))))))))))))))); obtain rfl := oi hG; exact rt [(1, 0, 2)]
def Gm (F : Nat) (p_0 : Int) : Option (Int) :=
 Option.bind (G7 F 4 p_0 2147483579) (fun v_1 =>
 some v_1)
theorem zd (F : Nat) (p_0 : Int) (r : Int) (hG : Gm F p_0 = some r) :
  Cf Tryz.prog 27 [I p_0] [] (I r) := by
 unfold Gm at hG; refine fi Tryz.func27 rfl rfl m0 fun S0 w0 hT => sq (rg (ra [] f0 [] (tN (sq ?_))))
 obtain ⟨v_1, hy_1, hG⟩ := bs hG; refine rg (rn 1 [] f0 [(3, I p_0)] (l1 (cl 4 (za2 F 4 p_0 2147483579 _ hy_1) hT trivial (ra [] f0 [(2, I v_1)] (tN (kR ?_)))))); obtain rfl := oi hG; exact rt []
end Go.Proofs.YtggaodokkcoagaaGreatDoor
