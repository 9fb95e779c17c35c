/-
  Texts joined: Ex, Ed, Ee, Ra, Rl, Ri, Rx, Rg, Ht, Dy, Dz, Zh, Zl.
-/
import Derived.Deep.RegionHeld3
import Derived.Test.YtggaodokkcoagaaGreatDoorProg
import Derived.Test.YtggaodokkcoagaaGreatDoorL10
import Derived.Test.YtggaodokkcoagaaGreatDoorL11
set_option linter.unusedSimpArgs false
set_option linter.unusedVariables false
set_option maxRecDepth 100000
set_option maxHeartbeats 16000000
namespace Go.Proofs.YtggaodokkcoagaaGreatDoor
open Go.RowKit
def extF (l : List Int) (m : Nat) (mark : Bool) : List Int := extT leafF pairF l m mark
theorem extF_left {l : List Int} {m : Nat} {mark : Bool} (h : 2 ≤ l.length ∧ m ≠ l.length) (hm : m ≤ hf l.length) : extF l m mark = extF (l.take (hf l.length)) m mark ++ [rootF (l.drop (hf l.length))] := extT_left h hm
theorem extF_right {l : List Int} {m : Nat} {mark : Bool} (h : 2 ≤ l.length ∧ m ≠ l.length) (hm : ¬m ≤ hf l.length) : extF l m mark = extF (l.drop (hf l.length)) (m - hf l.length) false ++ [rootF (l.take (hf l.length))] := extT_right h hm
theorem extF_end {l : List Int} {m : Nat} {mark : Bool} (h : ¬(2 ≤ l.length ∧ m ≠ l.length)) : extF l m mark = if mark = true then [] else [rootF l] := extT_end h
def extS (l : List Int) (m : Int) : List Int × Int := if checkS l ≠ 0 then ([], checkS l) else if m < 1 ∨ (l.length : Int) < m then ([], 1) else (extF l m.toNat true, 0)
theorem Extend_anyF (A : Option Addr) (c : Nat) (l : List Int) (i : Int) (w : World) (hc : l.length ≤ c) (h : KS .u64 w A l) :
  Calls Tryz.prog 25 #[.slice A l.length c, .int .i64 i] w fun e w' => ∃ A' c', e = .returned (.tuple #[.slice A' (extS l i).1.length c', .int .i64 (extS l i).2]) ∧ (extS l i).1.length ≤ c' ∧ c' ≤ maxLen ∧ (KS .u64 w' A' (extS l i).1 ∧ FrA w A') ∧ Below w.heap.size w w' := by
 have HC := hide fun W => check_any A c l W
 unfold extS
 by_cases hk : checkS l = 0
 ·obtain ⟨h1, h2⟩ := checkS_ok hk; rw [if_neg (by simpa using hk)]; rw [hk] at HC; clear hk
  by_cases hbad : i < 1 ∨ (l.length : Int) < i
  ·rw [if_pos hbad]; have hcase : decide (i < 1) = true ∨ decide (i < 1) = false ∧ decide ((l.length : Int) < i) = true := by
    simp only [decide_eq_true_eq, decide_eq_false_iff_not]; omega
   clear hbad; rcases hcase with q1 | ⟨q1, q2⟩
   all_goals
    go_enter Tryz.func25, Tryz.ntmps25
    go_wp2_with (go_at_call 67; refine (HC.out _).mono ?_; rintro e w2 ⟨rfl, rfl⟩)
    go_ret2
    exact ⟨none, 0, rfl, Nat.le_refl _, by simp [maxLen], ⟨Rd.nil _ _, fun _ _ h => by cases h⟩, Below.refl _ _⟩
  ·rw [if_neg hbad]; obtain ⟨j, rfl⟩ : ∃ j : Nat, i = j := ⟨i.toNat, by omega⟩; have q1 : decide ((j : Int) < 1) = false := decide_eq_false (by omega); have q2 : decide ((l.length : Int) < j) = false := decide_eq_false (by omega); have q3 : decide (l.length < j) = false := decide_eq_false (by omega); obtain ⟨b, o, rfl, hbl, hcell⟩ := h.at_ (i := 0) (by omega); have hjl : j ≤ l.length := by omega
   have hj1 : 1 ≤ j := by omega
   obtain ⟨res, hres⟩ : ∃ r, r = extF l j true := ⟨_, rfl⟩; obtain ⟨i0, hi, hz0, hz1, hz2⟩ := info_parts infoU; rw [Int.toNat_natCast, ← hres]; have HRES := hide hres; have K := hide h; clear hbad hcell h hres
   go_enter Tryz.func25, Tryz.ntmps25
   go_wp2_with (go_at_call 67; refine (HC.out _).mono ?_; rintro e w2 ⟨rfl, rfl⟩)
   go_loopw [0, 1, 7, 8, 9, 10] (fun u0 u1 u7 u8 _ _ wr => ∃ (b' o' c' : Nat) (l' : List Int) (i' : Nat) (path : List Int) (mark : Bool), u0 = .slice (some ⟨b', o', none⟩) l'.length c' ∧ l'.length ≤ c' ∧ 1 ≤ l'.length ∧ u1 = .int .i64 i' ∧ 1 ≤ i' ∧ i' ≤ l'.length ∧ u8 = .bool mark ∧ KS .u64 w (some ⟨b', o', none⟩) l' ∧ OwnK .u64 23 wr w.heap.size u7 path ∧ path.length + l'.length ≤ l.length ∧ extF l' i' mark ++ path.reverse = res ∧ Below w.heap.size w wr) (fun u0 _ _ _ _ _ _ => lenV u0)
   case atStart => exact ⟨b, o, c, l, j, [], true, rfl, hc, h1, rfl, hj1, hjl, rfl, K.out, OwnK.nil, by simp, by simp [HRES.out], Below.refl _ _⟩
   case round =>
    clear K HRES hbl hc HC
    rename World => wo
    obtain ⟨b', o', c', l', i', path, mark, rfl, hlc, hl1, rfl, hi1, hil, rfl, hks, ho, hpl, hpath, hb⟩ := hrel
    by_cases hn : i' < l'.length
    ·have d1 : decide ((i' : Int) < (l'.length : Int)) = true := decide_eq_true (by omega); have d2 : decide (i' < l'.length) = true := decide_eq_true (by omega); have hn2 : 2 ≤ l'.length := by omega
     obtain ⟨s1, s2, s3⟩ := hf_spec hn2; have PP := hide fun W => parts_any b' o' c' l'.length W hn2 (by omega) hlc
     have K1 := hide (KS.pre hks (hf l'.length)); have K2 := hide (KS.shift hks (n := hf l'.length) (by omega)); have HB := hide hb; have HO := hide ho; have HL := hide (@extF_left l' i' mark ⟨hn2, by omega⟩); have HR := hide (@extF_right l' i' mark ⟨hn2, by omega⟩); have HP := hide hpath; have R1 := hide fun W (s : KS .u64 W (some ⟨b', o', none⟩) (l'.take (hf l'.length))) => root_any (hf l'.length) (some ⟨b', o', none⟩) (hf l'.length) _ W (by simp; omega) s1 (by omega) (Nat.le_refl _) s
     have R2 := hide fun W (s : KS .u64 W (some ⟨b', o' + hf l'.length, none⟩) (l'.drop (hf l'.length))) => root_any (l'.length - hf l'.length) (some ⟨b', o' + hf l'.length, none⟩) (l'.length - hf l'.length) _ W (by simp) (by omega) (by omega) (Nat.le_refl _) s
     clear hks hb ho hpath hlc; obtain ⟨k, hk⟩ : ∃ k, k = hf l'.length := ⟨_, rfl⟩; rw [← hk] at PP s1 s2 s3 K1 K2 HL HR R1 R2; clear hk
     by_cases hik : i' ≤ k
     ·have d3 : decide ((i' : Int) ≤ (k : Int)) = true := decide_eq_true (by omega); have d4 : decide (i' ≤ k) = true := decide_eq_true (by omega); have HP2 := hide (show extF (l'.take k) i' mark ++ (path ++ [rootF (l'.drop k)]).reverse = res by rw [← HP.out, HL.out hik]; simp); clear HL HR R1 HP
      go_wp2_with (first
       | (go_at_call 68; refine (PP.out _).mono ?_; rintro e w2 ⟨rfl, hb⟩; have HB := hide (HB.out.trans (hb.mono HB.out.size)); have HO := hide (HO.out.below hb); clear hb)
       | (go_at_call 69; with_reducible refine (R2.out _ (K2.out.then_ HB.out)).mono ?_; rintro e w3 ⟨rfl, hb⟩; have HB := hide (HB.out.trans (hb.mono HB.out.size)); have HO := hide (HO.out.below hb); clear hb)
       | (at_builtin; refine wpList_append_rd _ rfl _ _ 32 rfl w.heap.size 23 i0 _ 1 8 Tryz.underlying32 hi hz0 hz1 hz2 rfl (by decide) _ _ _ rfl (OwnK.below HO.out ((Below.refl _ _).alloc (Nat.le_refl _) _)) (some ⟨w3.heap.size, 0, none⟩) 1 1 [.int .u64 (rootF (l'.drop k))] rfl rfl (Rd.new_row _ _ _) (by simp [Value.oneCell']) (by simp only [maxLen]; omega) (by omega) (by have := HB.out.size; simp; omega) ?_; intro v' w6 hown' hgrow _; have HB6 := hide ((HB.out.alloc HB.out.size _).grown hgrow (by have := HB.out.size; simp; omega) (fun g hg => (HO.out.lt g hg).1)); have HO6 := hide (OwnK.snoc hown' rfl rfl); clear hown' hgrow))
      go_roundw
      case rel => exact ⟨b', o', k, l'.take k, i', path ++ [rootF (l'.drop k)], mark, by rw [List.length_take, Nat.min_eq_left (by omega)], by simp; omega, by simp; omega, rfl, hi1, by rw [List.length_take, Nat.min_eq_left (by omega)]; exact hik, rfl, K1.out, HO6.out, by simp; omega, HP2.out, HB6.out⟩
      case measure => simp [lenV]; omega
     ·have d3 : decide ((i' : Int) ≤ (k : Int)) = false := decide_eq_false (by omega); have d4 : decide (i' ≤ k) = false := decide_eq_false (by omega); have HP2 := hide (show extF (l'.drop k) (i' - k) false ++ (path ++ [rootF (l'.take k)]).reverse = res by rw [← HP.out, HR.out hik]; simp); have p1 : (0 : Int) ≤ (i' : Int) - k := by omega
      have p2 : (i' : Int) - k ≤ 10000 := by omega
      have p3 := hide (show ((i' - k : Nat) : Int) = (i' : Int) - k by omega); clear HL HR R2 HP
      go_wp2_with (first
       | (go_at_call 68; refine (PP.out _).mono ?_; rintro e w2 ⟨rfl, hb⟩; have HB := hide (HB.out.trans (hb.mono HB.out.size)); have HO := hide (HO.out.below hb); clear hb)
       | (go_at_call 69; with_reducible refine (R1.out _ (K1.out.then_ HB.out)).mono ?_; rintro e w3 ⟨rfl, hb⟩; have HB := hide (HB.out.trans (hb.mono HB.out.size)); have HO := hide (HO.out.below hb); clear hb)
       | (at_builtin; refine wpList_append_rd _ rfl _ _ 32 rfl w.heap.size 23 i0 _ 1 8 Tryz.underlying32 hi hz0 hz1 hz2 rfl (by decide) _ _ _ rfl (OwnK.below HO.out ((Below.refl _ _).alloc (Nat.le_refl _) _)) (some ⟨w3.heap.size, 0, none⟩) 1 1 [.int .u64 (rootF (l'.take k))] rfl rfl (Rd.new_row _ _ _) (by simp [Value.oneCell']) (by simp only [maxLen]; omega) (by omega) (by have := HB.out.size; simp; omega) ?_; intro v' w6 hown' hgrow _; have HB6 := hide ((HB.out.alloc HB.out.size _).grown hgrow (by have := HB.out.size; simp; omega) (fun g hg => (HO.out.lt g hg).1)); have HO6 := hide (OwnK.snoc hown' rfl rfl); clear hown' hgrow))
      go_roundw
      case rel => exact ⟨b', o' + k, l'.length - k, l'.drop k, i' - k, path ++ [rootF (l'.take k)], false, by rw [List.length_drop], by simp, by simp; omega, by rw [p3.out], by omega, by simp; omega, rfl, K2.out, HO6.out, by simp; omega, HP2.out, HB6.out⟩
      case measure => simp [lenV]; omega
    ·have d1 : decide ((i' : Int) < (l'.length : Int)) = false := decide_eq_false (by omega); have d2 : decide (i' < l'.length) = false := decide_eq_false (by omega); rw [extF_end (by omega)] at hpath; have HB := hide hb; cases mark
     ·rw [if_neg (by simp)] at hpath; obtain ⟨pl, hpp⟩ : ∃ pl, pl = path ++ [rootF l'] := ⟨_, rfl⟩; have HE := hide (show pl.reverse = res by rw [← hpath, hpp]; simp); have HPL := hide hpp; have REV := hide (fun A7 c7 W (s : OwnK .u64 23 W w.heap.size (.slice A7 pl.length c7) pl) => revK_any w.heap.size A7 pl.length c7 pl W (by rw [hpp]; simp; omega) s); have HO := hide ho; have K0 := hide hks; have R0 := hide fun W (s : KS .u64 W (some ⟨b', o', none⟩) l') => root_any l'.length (some ⟨b', o', none⟩) c' l' W rfl hl1 (by omega) hlc s
      clear hn hpath hks ho hb hpp
      go_wp2_with (first
       | (go_at_call 69; refine (R0.out _ (K0.out.then_ HB.out)).mono ?_; rintro e w3 ⟨rfl, hb⟩; have HB := hide (HB.out.trans (hb.mono HB.out.size)); have HO := hide (HO.out.below hb); clear hb)
       | (at_builtin; refine wpList_append_rd _ rfl _ _ 32 rfl w.heap.size 23 i0 _ 1 8 Tryz.underlying32 hi hz0 hz1 hz2 rfl (by decide) _ _ _ rfl (OwnK.below HO.out ((Below.refl _ _).alloc (Nat.le_refl _) _)) (some ⟨w3.heap.size, 0, none⟩) 1 1 [.int .u64 (rootF l')] rfl rfl (Rd.new_row _ _ _) (by simp [Value.oneCell']) (by simp only [maxLen]; omega) (by omega) (by have := HB.out.size; simp; omega) ?_; intro v' w6 hown' hgrow _; have HB := hide ((HB.out.alloc HB.out.size _).grown hgrow (by have := HB.out.size; simp; omega) (fun g hg => (HO.out.lt g hg).1)); have ho6 := OwnK.snoc hown' rfl rfl; rw [← HPL.out] at ho6; clear hown' hgrow HO; obtain ⟨A7, c7, rfl, hl7, hm7, _⟩ := OwnK.form ho6; have HO := hide ho6; clear ho6)
       | (go_at_call 70; with_reducible refine (REV.out A7 c7 _ HO.out).mono ?_; rintro e w2 ⟨⟨_, rfl⟩, ho2, row, hg2, hr2⟩; have HO := hide ho2; have HB := hide (HB.out.grown hg2 HB.out.size hr2); clear ho2 hg2 hr2))
      go_ret2
      obtain ⟨A8, c8, h8, hl8, hm8, hk8⟩ := HO.out.form
      injection h8 with h8a h8b h8c
      subst h8a h8c; rw [HE.out] at hl8 hk8; exact ⟨A7, c7, by rw [← HE.out, List.length_reverse]; rfl, hl8, hm8, ⟨hk8, HO.out.fresh⟩, HB.out⟩
     ·rw [if_pos rfl, List.nil_append] at hpath; subst hpath; obtain ⟨A7, c7, rfl, hl7, hm7, hk7⟩ := ho.form; have REV := hide (fun W (s : OwnK .u64 23 W w.heap.size (.slice A7 path.length c7) path) => revK_any w.heap.size A7 path.length c7 path W (by omega) s); have HO := hide ho; clear hn hk7 ho hb hks
      go_wp2_with (go_at_call 70; refine (REV.out _ HO.out).mono ?_; rintro e w2 ⟨⟨_, rfl⟩, ho2, row, hg2, hr2⟩; have HO := hide ho2; have HB := hide (HB.out.grown hg2 HB.out.size hr2); clear ho2 hg2 hr2)
      go_ret2
      obtain ⟨A8, c8, h8, hl8, hm8, hk8⟩ := HO.out.form
      injection h8 with h8a h8b h8c
      subst h8a h8c; exact ⟨A7, c7, by rw [List.length_reverse]; rfl, hl8, hm8, ⟨hk8, HO.out.fresh⟩, HB.out⟩
 ·rw [if_pos hk]; obtain ⟨x, hx⟩ : ∃ x, x = checkS l := ⟨_, rfl⟩; rw [← hx] at HC hk ⊢; have q : (x != 0) = true := by simp [hk]
  clear hk hx
  go_enter Tryz.func25, Tryz.ntmps25
  go_wp2_with (go_at_call 67; refine (HC.out _).mono ?_; rintro e w2 ⟨rfl, rfl⟩)
  go_ret2
  exact ⟨none, 0, rfl, Nat.le_refl _, by simp [maxLen], ⟨Rd.nil _ _, fun _ _ h => by cases h⟩, Below.refl _ _⟩
theorem wrapsI63 (n : Int) (h₀ : 0 ≤ n) (h₁ : n < 2 ^ 63) : IntKind.i64.wrap n = n := IntWalk.i64_in _ (by omega)
theorem pow_bits0 : ∀ i < 65, ∀ j < 64, 1 ≤ 64 * i + j → (((64 * i + j) &&& (64 * i + j - 1) = 0) ↔ 64 * i + j = 2 ^ Nat.log2 (64 * i + j)) := by decide +kernel
theorem pow_bits (m : Nat) (h : m < 4097) (h1 : 1 ≤ m) : (m &&& (m - 1) = 0) ↔ m = 2 ^ Nat.log2 m := by
 have := pow_bits0 (m / 64) (by omega) (m % 64) (by omega); rw [Nat.div_add_mod] at this; exact this h1
theorem isPow_iff {m : Nat} (h1 : 1 ≤ m) (h : m ≤ 4096) : isPow m ↔ m &&& (m - 1) = 0 := by
 rw [pow_bits m (by omega) h1]; constructor
 ·rintro ⟨e, rfl⟩; rw [Nat.log2_two_pow]
 ·intro h; exact ⟨_, h⟩
theorem and_pred {m : Nat} (h1 : 1 ≤ m) (h : m ≤ 4096) : bits .and .i64 (m : Int) ((m : Int) - 1) = ((m &&& (m - 1) : Nat) : Int) := by
 have := (bits_nat .i64 63 (by decide) wrapsI63 m (m - 1) (by omega) (by omega)).1; rw [← this]
 congr 1
 omega
theorem OwnK.blk_lt {k : IntKind} {e : TypeId} {w : World} {base n c : Nat} {A : Option Addr} {l : List Int} (h : OwnK k e w base (.slice A n c) l) : ∀ a, A = some a → a.block < w.heap.size := by
 rintro a rfl; rcases h.2 with ⟨hv, _⟩ | ⟨g, cap, cur, hv, hg, hh, _⟩
 ·injection hv with e1; cases e1
 ·injection hv with e1
  injection e1 with e1
  subst e1; exact (Array.getElem?_eq_some_iff.1 hh).1
def frE (s : Int × Int) (p : Int) : Int × Int := (pairF p s.1, pairF p s.2)
def flE (s : Int × Int) (p : Int) : Int × Int := (s.1, pairF s.2 p)
def growS (a b m n : Int) (path : List Int) : Bool := if n < 1 ∨ 4096 < n ∨ m < 1 ∨ n < m then false else decide (growO pairF a m.toNat n.toNat true path = some (a, b))
theorem ext_pow (a b : Int) (mm nn : Nat) (A : Option Addr) (c : Nat) (path : List Int) (w : World) (hp : path.length ≤ 1000) (hm1 : 1 ≤ mm) (hmn : mm < nn) (hn : nn ≤ 4096) (hpow : isPow mm) (h : KS .u64 w A path) :
    Calls Tryz.prog 37 #[.int .u64 a, .int .u64 b, .int .i64 (mm : Int), .int .i64 (nn : Int), .slice A path.length c] w fun e w' => e = .returned (.bool (decide (growO pairF a mm nn true path = some (a, b)))) ∧ Below w.heap.size w w' := by
  have q1 : decide ((nn : Int) < 1) = false := decide_eq_false (by omega)
  have q2 : decide (4096 < (nn : Int)) = false := decide_eq_false (by omega)
  have q3 : decide ((mm : Int) < 1) = false := decide_eq_false (by omega)
  have q4 : decide ((nn : Int) < mm) = false := decide_eq_false (by omega)
  have q5 : decide (nn < mm) = false := decide_eq_false (by omega)
  have q6 : ((mm : Int) == (nn : Int)) = false := by simp; omega
  have hb0 := and_pred hm1 (by omega)
  rw [(isPow_iff hm1 (by omega)).1 hpow] at hb0
  rw [grow_pow nn a mm path hpow hmn, grow_walk nn a a mm path hm1 hmn]
  obtain ⟨res, hres⟩ : ∃ r, wlk frE flE (stripT (mm - 1) (nn - 1)).1 (stripT (mm - 1) (nn - 1)).2 (a, a) path = r := ⟨_, rfl⟩
  have hres2 : wlk (fun s p => (pairF p s.1, pairF p s.2)) (fun s p => (s.1, pairF s.2 p)) (stripT (mm - 1) (nn - 1)).1 (stripT (mm - 1) (nn - 1)).2 (a, a) path = res := hres
  rw [hres2]
  have HRES := hide hres
  have K0 := hide h
  have CL := hide fun W (s : KS .u64 W A path) => cloneK_any A c path W (by omega) s
  have e1 := hide (show ((mm - 1 : Nat) : Int) = (mm : Int) - 1 by omega)
  have e2 := hide (show ((nn - 1 : Nat) : Int) = (nn : Int) - 1 by omega)
  have p1 : (0 : Int) ≤ (mm : Int) - 1 := by omega
  have p2 : (mm : Int) - 1 ≤ 5000 := by omega
  have p3 : (0 : Int) ≤ (nn : Int) - 1 := by omega
  have p4 : (nn : Int) - 1 ≤ 5000 := by omega
  have p5 : ((path.length : Int) + 1 == 0) = false := by simp; omega
  clear hpow h hres hres2
  go_enter Tryz.func37, Tryz.ntmps37
  go_wp2
  go_step3
  go_upto_region 9 with (first
    | (go_at_call 89; with_reducible refine (CL.out _ K0.out).mono ?_; rintro e w2 ⟨v2, rfl, ho, hb⟩; obtain ⟨A2, c2, rfl, hl2, hm2, -⟩ := OwnK.form ho; have BX := hide hb; have HO := hide ho; have hs2 := hb.size; have HLT := hide ho.blk_lt; clear ho hb)
    | (go_at_call 88; with_reducible refine (insertK_any A2 c2 path a w2.heap.size w.heap.size _ (HO.out.below ((Below.refl _ _).alloc (Nat.le_refl _) _)) (by simp; omega) (by omega) (Blk.new _ _ _) ?_).mono ?_))
  · rintro x rfl
    have := HLT.out x rfl
    omega
  rintro e w3 ⟨v3, rfl, ho3, hb3⟩
  obtain ⟨A3, pcap, rfl, hl3, hm3, hk3⟩ := ho3.form
  obtain ⟨pb, po, rfl, -, -⟩ := hk3.at_ (i := 0) (by simp)
  have hpc : path.length + 1 ≤ pcap := hl3
  have BX := hide ((BX.out.alloc hs2 (.cells #[.int .u64 a] 23)).trans hb3)
  have K := hide hk3
  have WW := hide (show W2 (w3.alloc (.cells #[.int .u64 ((mm : Int) - 1), .int .u64 ((nn : Int) - 1)] 147)) w3.heap.size (mm - 1) (nn - 1) by unfold W2; rw [e1.out, e2.out]; exact Blk.new w3 147 #[.int .u64 ((mm : Int) - 1), .int .u64 ((nn : Int) - 1)])
  have BW := hide ((Below.refl w3.heap.size w3).alloc (Nat.le_refl _) (.cells #[.int .u64 ((mm : Int) - 1), .int .u64 ((nn : Int) - 1)] 147))
  clear ho3 hb3 hk3 HO HLT K0 CL hl3
  go_wp2_with fail
  go_loopw [] (fun wr => ∃ a' b' : Nat, W2 wr w3.heap.size a' b' ∧ a' < 10000 ∧ stripT a' b' = stripT (mm - 1) (nn - 1) ∧ Below w3.heap.size w3 wr) (fun wr => cellN wr w3.heap.size)
  case atStart => exact ⟨mm - 1, nn - 1, WW.out, by omega, rfl, BW.out⟩
  case round =>
    clear WW BW
    obtain ⟨a', b', hw, ha', hst, hb⟩ := hrel
    have c0' : wr.cell? ⟨w3.heap.size, 0, none⟩ = some (.int .u64 a') := hw.cell 0
    have c1' : wr.cell? ⟨w3.heap.size, 1, none⟩ = some (.int .u64 b') := hw.cell 1
    have hbit := and1 a' ha'
    have HW := hide hw
    have HB := hide hb
    clear hw hb
    by_cases ho : a' % 2 = 1
    · rw [ho] at hbit
      have HS2 := hide (hst ▸ (stripT_odd (b := b') ho).symm : stripT (a' / 2) (b' / 2) = stripT (mm - 1) (nn - 1))
      have HU := hide fun W (hh : W2 W w3.heap.size a' b') => up_any w3.heap.size a' b' false W hh ha'
      have hpos : a' / 2 < a' := by omega
      clear hst ho
      go_wp2_with (go_at_call 90; refine (HU.out _ HW.out).mono ?_; rintro e w5 ⟨⟨_, rfl⟩, hw5, hg5⟩; have HB5 := hide (HB.out.grown hg5 HB.out.size (fun g hg => by injection hg with hg; omega)); have HW5 := hide hw5; clear hw5 hg5)
      go_roundw
      case rel => exact ⟨a' / 2, b' / 2, HW5.out, by omega, HS2.out, HB5.out⟩
      case measure => rw [cellN_eq HW.out, cellN_eq HW5.out]; exact hpos
    · rw [show a' % 2 = 0 by omega] at hbit
      rw [stripT_even (by omega)] at hst
      rw [← hst] at HRES
      have HRES := hide (show wlk frE flE a' b' (a, a) path = res from HRES.out)
      rename World => wo
      have hw1 : IntKind.i64.wrap 1 = 1 := IntWalk.i64_in _ (by omega)
      have hw3 : (1 : Int) ≤ (path.length : Int) + 1 := by omega
      rcases Decidable.em (pcap = 1) with hp1 | hp1
      all_goals
        obtain ⟨pb', po', hA, hbl, hc⟩ := (K.out.then_ HB.out).at_ (i := 0) (by simp)
        injection hA with hA
        injection hA with hA1 hA2
        subst hA1 hA2
        have c2' := hc 0 (by simp)
        rw [Nat.add_zero, List.getElem_cons_zero] at c2'
        have HC := hide hc
        clear hst ho hc
        go_wp2_with fail
        have n0 := fun x : Fut wo.heap.size wo => (x.cell pb po hbl).trans c2'
        refine wp_region_fut wo.heap.size (by kernel_rfl) (by kernel_rfl) ?_
        repeat (go_big_quiet_step ((first | fail)))
        refine wpQuiet_nil ?_
        intro w10 hq'; have hb10 := Fut.of hq'; clear hq'
        go_wp2_with fail
        go_step3
        go_wp2_with fail
        go_loopw [12, 13, 15, 80] (fun u12 u13 _ i wr => ∃ (k a2 b2 : Nat) (xv yv : Int), k ≤ path.length ∧ i = .int .i64 k ∧ u12 = .int .u64 xv ∧ u13 = .int .u64 yv ∧ W2 wr w3.heap.size a2 b2 ∧ a2 < 10000 ∧ wlk frE flE a2 b2 (xv, yv) (path.drop k) = res ∧ Below w3.heap.size w3 wr) (fun _ _ _ i _ => path.length - (intOf i).toNat)
        case atStart => exact ⟨0, a', b', a, a, Nat.zero_le _, rfl, rfl, rfl, HW.out.below hb10 HW.out.lt, ha', HRES.out, HB.out.trans (hb10.mono HB.out.size)⟩
        case round =>
          clear HW HB HRES c0' c1' c2' hbit HC
          obtain ⟨k, a2, b2, xv, yv, hk, rfl, rfl, rfl, hw2, ha2, hwlk, hb2⟩ := hrel
          have c0' : wr.cell? ⟨w3.heap.size, 0, none⟩ = some (.int .u64 a2) := hw2.cell 0
          have c1' : wr.cell? ⟨w3.heap.size, 1, none⟩ = some (.int .u64 b2) := hw2.cell 1
          have HB := hide hb2
          by_cases hlt : k < path.length
          · first
            | (exfalso; omega)
            | (have hc1 : ¬ pcap = 1 := by omega
               obtain ⟨pb', po', hA, hbl2, hc⟩ := (K.out.then_ HB.out).at_ (i := k + 1) (by simp; omega)
               injection hA with hA
               injection hA with hA1 hA2
               subst hA1 hA2
               have c2' := hc (k + 1) (by simp; omega)
               rw [List.getElem_cons_succ, show po + (k + 1) = po + 1 + k by omega] at c2'
               rw [List.drop_eq_getElem_cons hlt] at hwlk
               obtain ⟨p, hpp⟩ : ∃ p, p = path[k] := ⟨_, rfl⟩
               rw [← hpp] at c2' hwlk
               have HW := hide hw2
               clear hc hpp hb2 hw2
               by_cases hz : b2 = 0
               · subst hz
                 rw [wlk_end] at hwlk
                 subst hwlk
                 go_wp2
                 repeat (rw [Exit.noGoto_ret])
                 go_ret
                 exact ⟨rfl, BX.out.trans (HB.out.mono BX.out.size)⟩
               · have qz : ((b2 : Int) == 0) = false := by simp; omega
                 rw [wlk_cons, if_neg hz] at hwlk
                 have HR := hide fun W (hh : W2 W w3.heap.size a2 b2) => right_any w3.heap.size a2 b2 W hh ha2
                 cases hr : isR a2 b2
                 · rw [hr] at HR hwlk
                   rw [if_neg (by simp)] at hwlk
                   have HL := hide hwlk
                   have HU := hide fun W (hh : W2 W w3.heap.size a2 b2) => up_any w3.heap.size a2 b2 false W hh ha2
                   clear hwlk hr
                   go_wp2_with (first
                                   | (go_at_call 91; refine (HR.out _ HW.out).mono ?_; rintro e w23 ⟨rfl, hb⟩; have HW := hide (HW.out.below hb HW.out.lt); have HB := hide (HB.out.trans (hb.mono HB.out.size)); clear hb)
                                   | (go_at_call 92; refine (pair_any _ _ _).mono ?_; rintro e w24 ⟨rfl, hb⟩; have HW := hide (HW.out.below hb HW.out.lt); have HB := hide (HB.out.trans (hb.mono HB.out.size)); clear hb)
                                   | (go_at_call 90; refine (HU.out _ HW.out).mono ?_; rintro e w25 ⟨⟨_, rfl⟩, hw5, hg5⟩; have HB5 := hide (HB.out.grown hg5 HB.out.size (fun g hg => by injection hg with hg; omega)); have HW5 := hide hw5; clear hw5 hg5))
                   go_roundw
                   case rel => exact ⟨k + 1, a2 / 2, b2 / 2, xv, pairF yv p, by omega, by go_num, rfl, rfl, HW5.out, by omega, HL.out, HB5.out⟩
                   case measure => simp [intOf]; omega
                 · rw [hr] at HR hwlk
                   rw [if_pos rfl] at hwlk
                   have HL := hide hwlk
                   have HU := hide fun W (hh : W2 W w3.heap.size a2 b2) => up_any w3.heap.size a2 b2 true W hh ha2
                   have hle := upT_le a2 a2 b2 (Nat.le_refl _)
                   clear hwlk hr
                   go_wp2_with (first
                                   | (go_at_call 91; refine (HR.out _ HW.out).mono ?_; rintro e w23 ⟨rfl, hb⟩; have HW := hide (HW.out.below hb HW.out.lt); have HB := hide (HB.out.trans (hb.mono HB.out.size)); clear hb)
                                   | (go_at_call 92; refine (pair_any _ _ _).mono ?_; rintro e w24 ⟨rfl, hb⟩; have HW := hide (HW.out.below hb HW.out.lt); have HB := hide (HB.out.trans (hb.mono HB.out.size)); clear hb)
                                   | (go_at_call 90; refine (HU.out _ HW.out).mono ?_; rintro e w25 ⟨⟨_, rfl⟩, hw5, hg5⟩; have HB5 := hide (HB.out.grown hg5 HB.out.size (fun g hg => by injection hg with hg; omega)); have HW5 := hide hw5; clear hw5 hg5))
                   go_roundw
                   case rel => exact ⟨k + 1, (upT a2 b2).1, (upT a2 b2).2, pairF p xv, pairF p yv, by omega, by go_num, rfl, rfl, HW5.out, by omega, HL.out, HB5.out⟩
                   case measure => simp [intOf]; omega)
          · have hd : path.drop k = [] := List.drop_eq_nil_of_le (by omega)
            rw [hd] at hwlk
            clear hw2 hb2
            by_cases hz : b2 = 0
            · subst hz
              rw [wlk_nil0] at hwlk
              subst hwlk
              have HE := hide (show decide (some (xv, yv) = some (a, b)) = ((xv == a) && (yv == b)) by rw [Bool.eq_iff_iff]; simp)
              have HF := hide (BX.out.trans (HB.out.mono BX.out.size))
              cases hq : (xv == a)
              · go_wp2
                repeat (rw [Exit.noGoto_ret])
                go_ret
                exact ⟨by rw [HE.out, hq]; rfl, HF.out⟩
              · go_wp2
                repeat (rw [Exit.noGoto_ret])
                go_ret
                exact ⟨by rw [HE.out, hq]; rfl, HF.out⟩
            · have qz : ((b2 : Int) == 0) = false := by simp; omega
              rw [wlk_nil hz] at hwlk
              subst hwlk
              have HF := hide (BX.out.trans (HB.out.mono BX.out.size))
              go_wp2
              repeat (rw [Exit.noGoto_ret])
              go_ret
              exact ⟨rfl, HF.out⟩
theorem growO_other {a : Int} {m n : Nat} {path : List Int} (h1 : 1 ≤ m) (hp : ¬isPow m) (hm : m < n) : growO pairF a m n true path = growO pairF a m n false path := by
 unfold growO; rw [grow_other n a a m path h1 hp hm]
theorem ext_odd (a b : Int) (mm nn : Nat) (A : Option Addr) (c0 : Int) (ps : List Int) (pcap : Nat) (w : World) (hp : ps.length ≤ 1000) (hpc : ps.length + 1 ≤ pcap) (hm1 : 1 ≤ mm) (hmn : mm < nn) (hn : nn ≤ 4096) (hpow : ¬isPow mm) (h : KS .u64 w A (c0 :: ps)) :
    Calls Tryz.prog 37 #[.int .u64 a, .int .u64 b, .int .i64 (mm : Int), .int .i64 (nn : Int), .slice A (ps.length + 1) pcap] w fun e w' => e = .returned (.bool (decide (growO pairF a mm nn true (c0 :: ps) = some (a, b)))) ∧ Below w.heap.size w w' := by
  have q1 : decide ((nn : Int) < 1) = false := decide_eq_false (by omega)
  have q2 : decide (4096 < (nn : Int)) = false := decide_eq_false (by omega)
  have q3 : decide ((mm : Int) < 1) = false := decide_eq_false (by omega)
  have q4 : decide ((nn : Int) < mm) = false := decide_eq_false (by omega)
  have q5 : decide (nn < mm) = false := decide_eq_false (by omega)
  have q6 : ((mm : Int) == (nn : Int)) = false := by simp; omega
  have hb0 := and_pred hm1 (by omega)
  have hz0 : ¬(mm &&& (mm - 1) = 0) := fun e => hpow ((isPow_iff hm1 (by omega)).2 e)
  obtain ⟨z, hz⟩ : ∃ z, z = mm &&& (mm - 1) := ⟨_, rfl⟩
  rw [← hz] at hb0 hz0
  have q7 : ((z : Int) == 0) = false := by simp; omega
  rw [growO_other hm1 hpow hmn, grow_walk nn a c0 mm ps hm1 hmn]
  obtain ⟨res, hres⟩ : ∃ r, wlk frE flE (stripT (mm - 1) (nn - 1)).1 (stripT (mm - 1) (nn - 1)).2 (c0, c0) ps = r := ⟨_, rfl⟩
  have hres2 : wlk (fun s p => (pairF p s.1, pairF p s.2)) (fun s p => (s.1, pairF s.2 p)) (stripT (mm - 1) (nn - 1)).1 (stripT (mm - 1) (nn - 1)).2 (c0, c0) ps = res := hres
  rw [hres2]
  obtain ⟨pb, po, rfl, -, -⟩ := h.at_ (i := 0) (by simp)
  have HRES := hide hres
  have K := hide h
  have e1 := hide (show ((mm - 1 : Nat) : Int) = (mm : Int) - 1 by omega)
  have e2 := hide (show ((nn - 1 : Nat) : Int) = (nn : Int) - 1 by omega)
  have p1 : (0 : Int) ≤ (mm : Int) - 1 := by omega
  have p2 : (mm : Int) - 1 ≤ 5000 := by omega
  have p3 : (0 : Int) ≤ (nn : Int) - 1 := by omega
  have p4 : (nn : Int) - 1 ≤ 5000 := by omega
  have p5 : ((ps.length : Int) + 1 == 0) = false := by simp; omega
  have BX := hide (Below.refl w.heap.size w)
  have WW := hide (show W2 (w.alloc (.cells #[.int .u64 ((mm : Int) - 1), .int .u64 ((nn : Int) - 1)] 147)) w.heap.size (mm - 1) (nn - 1) by unfold W2; rw [e1.out, e2.out]; exact Blk.new w 147 #[.int .u64 ((mm : Int) - 1), .int .u64 ((nn : Int) - 1)])
  have BW := hide ((Below.refl w.heap.size w).alloc (Nat.le_refl _) (.cells #[.int .u64 ((mm : Int) - 1), .int .u64 ((nn : Int) - 1)] 147))
  clear hpow h hres hres2 hz
  go_enter Tryz.func37, Tryz.ntmps37
  go_wp2
  go_step3
  go_wp2_with fail
  go_loopw [] (fun wr => ∃ a' b' : Nat, W2 wr w.heap.size a' b' ∧ a' < 10000 ∧ stripT a' b' = stripT (mm - 1) (nn - 1) ∧ Below w.heap.size w wr) (fun wr => cellN wr w.heap.size)
  case atStart => exact ⟨mm - 1, nn - 1, WW.out, by omega, rfl, BW.out⟩
  case round =>
    clear WW BW
    obtain ⟨a', b', hw, ha', hst, hb⟩ := hrel
    have c0' : wr.cell? ⟨w.heap.size, 0, none⟩ = some (.int .u64 a') := hw.cell 0
    have c1' : wr.cell? ⟨w.heap.size, 1, none⟩ = some (.int .u64 b') := hw.cell 1
    have hbit := and1 a' ha'
    have HW := hide hw
    have HB := hide hb
    clear hw hb
    by_cases ho : a' % 2 = 1
    · rw [ho] at hbit
      have HS2 := hide (hst ▸ (stripT_odd (b := b') ho).symm : stripT (a' / 2) (b' / 2) = stripT (mm - 1) (nn - 1))
      have HU := hide fun W (hh : W2 W w.heap.size a' b') => up_any w.heap.size a' b' false W hh ha'
      have hpos : a' / 2 < a' := by omega
      clear hst ho
      go_wp2_with (go_at_call 90; refine (HU.out _ HW.out).mono ?_; rintro e w5 ⟨⟨_, rfl⟩, hw5, hg5⟩; have HB5 := hide (HB.out.grown hg5 HB.out.size (fun g hg => by injection hg with hg; omega)); have HW5 := hide hw5; clear hw5 hg5)
      go_roundw
      case rel => exact ⟨a' / 2, b' / 2, HW5.out, by omega, HS2.out, HB5.out⟩
      case measure => rw [cellN_eq HW.out, cellN_eq HW5.out]; exact hpos
    · rw [show a' % 2 = 0 by omega] at hbit
      rw [stripT_even (by omega)] at hst
      rw [← hst] at HRES
      have HRES := hide (show wlk frE flE a' b' (c0, c0) ps = res from HRES.out)
      rename World => wo
      have hw1 : IntKind.i64.wrap 1 = 1 := IntWalk.i64_in _ (by omega)
      have hw3 : (1 : Int) ≤ (ps.length : Int) + 1 := by omega
      rcases Decidable.em (pcap = 1) with hp1 | hp1
      all_goals
        obtain ⟨pb', po', hA, hbl, hc⟩ := (K.out.then_ HB.out).at_ (i := 0) (by simp)
        injection hA with hA
        injection hA with hA1 hA2
        subst hA1 hA2
        have c2' := hc 0 (by simp)
        rw [Nat.add_zero, List.getElem_cons_zero] at c2'
        have HC := hide hc
        clear hst ho hc
        go_wp2_with fail
        have n0 := fun x : Fut wo.heap.size wo => (x.cell pb po hbl).trans c2'
        refine wp_region_fut wo.heap.size (by kernel_rfl) (by kernel_rfl) ?_
        repeat (go_big_quiet_step ((first | fail)))
        refine wpQuiet_nil ?_
        intro w10 hq'; have hb10 := Fut.of hq'; clear hq'
        go_wp2_with fail
        go_step3
        go_wp2_with fail
        go_loopw [12, 13, 15, 80] (fun u12 u13 _ i wr => ∃ (k a2 b2 : Nat) (xv yv : Int), k ≤ ps.length ∧ i = .int .i64 k ∧ u12 = .int .u64 xv ∧ u13 = .int .u64 yv ∧ W2 wr w.heap.size a2 b2 ∧ a2 < 10000 ∧ wlk frE flE a2 b2 (xv, yv) (ps.drop k) = res ∧ Below w.heap.size w wr) (fun _ _ _ i _ => ps.length - (intOf i).toNat)
        case atStart => exact ⟨0, a', b', c0, c0, Nat.zero_le _, rfl, rfl, rfl, HW.out.below hb10 HW.out.lt, ha', HRES.out, HB.out.trans (hb10.mono HB.out.size)⟩
        case round =>
          clear HW HB HRES c0' c1' c2' hbit HC
          obtain ⟨k, a2, b2, xv, yv, hk, rfl, rfl, rfl, hw2, ha2, hwlk, hb2⟩ := hrel
          have c0' : wr.cell? ⟨w.heap.size, 0, none⟩ = some (.int .u64 a2) := hw2.cell 0
          have c1' : wr.cell? ⟨w.heap.size, 1, none⟩ = some (.int .u64 b2) := hw2.cell 1
          have HB := hide hb2
          by_cases hlt : k < ps.length
          · first
            | (exfalso; omega)
            | (have hc1 : ¬ pcap = 1 := by omega
               obtain ⟨pb', po', hA, hbl2, hc⟩ := (K.out.then_ HB.out).at_ (i := k + 1) (by simp; omega)
               injection hA with hA
               injection hA with hA1 hA2
               subst hA1 hA2
               have c2' := hc (k + 1) (by simp; omega)
               rw [List.getElem_cons_succ, show po + (k + 1) = po + 1 + k by omega] at c2'
               rw [List.drop_eq_getElem_cons hlt] at hwlk
               obtain ⟨p, hpp⟩ : ∃ p, p = ps[k] := ⟨_, rfl⟩
               rw [← hpp] at c2' hwlk
               have HW := hide hw2
               clear hc hpp hb2 hw2
               by_cases hz : b2 = 0
               · subst hz
                 rw [wlk_end] at hwlk
                 subst hwlk
                 go_wp2
                 repeat (rw [Exit.noGoto_ret])
                 go_ret
                 exact ⟨rfl, BX.out.trans (HB.out.mono BX.out.size)⟩
               · have qz : ((b2 : Int) == 0) = false := by simp; omega
                 rw [wlk_cons, if_neg hz] at hwlk
                 have HR := hide fun W (hh : W2 W w.heap.size a2 b2) => right_any w.heap.size a2 b2 W hh ha2
                 cases hr : isR a2 b2
                 · rw [hr] at HR hwlk
                   rw [if_neg (by simp)] at hwlk
                   have HL := hide hwlk
                   have HU := hide fun W (hh : W2 W w.heap.size a2 b2) => up_any w.heap.size a2 b2 false W hh ha2
                   clear hwlk hr
                   go_wp2_with (first
                                   | (go_at_call 91; refine (HR.out _ HW.out).mono ?_; rintro e w23 ⟨rfl, hb⟩; have HW := hide (HW.out.below hb HW.out.lt); have HB := hide (HB.out.trans (hb.mono HB.out.size)); clear hb)
                                   | (go_at_call 92; refine (pair_any _ _ _).mono ?_; rintro e w24 ⟨rfl, hb⟩; have HW := hide (HW.out.below hb HW.out.lt); have HB := hide (HB.out.trans (hb.mono HB.out.size)); clear hb)
                                   | (go_at_call 90; refine (HU.out _ HW.out).mono ?_; rintro e w25 ⟨⟨_, rfl⟩, hw5, hg5⟩; have HB5 := hide (HB.out.grown hg5 HB.out.size (fun g hg => by injection hg with hg; omega)); have HW5 := hide hw5; clear hw5 hg5))
                   go_roundw
                   case rel => exact ⟨k + 1, a2 / 2, b2 / 2, xv, pairF yv p, by omega, by go_num, rfl, rfl, HW5.out, by omega, HL.out, HB5.out⟩
                   case measure => simp [intOf]; omega
                 · rw [hr] at HR hwlk
                   rw [if_pos rfl] at hwlk
                   have HL := hide hwlk
                   have HU := hide fun W (hh : W2 W w.heap.size a2 b2) => up_any w.heap.size a2 b2 true W hh ha2
                   have hle := upT_le a2 a2 b2 (Nat.le_refl _)
                   clear hwlk hr
                   go_wp2_with (first
                                   | (go_at_call 91; refine (HR.out _ HW.out).mono ?_; rintro e w23 ⟨rfl, hb⟩; have HW := hide (HW.out.below hb HW.out.lt); have HB := hide (HB.out.trans (hb.mono HB.out.size)); clear hb)
                                   | (go_at_call 92; refine (pair_any _ _ _).mono ?_; rintro e w24 ⟨rfl, hb⟩; have HW := hide (HW.out.below hb HW.out.lt); have HB := hide (HB.out.trans (hb.mono HB.out.size)); clear hb)
                                   | (go_at_call 90; refine (HU.out _ HW.out).mono ?_; rintro e w25 ⟨⟨_, rfl⟩, hw5, hg5⟩; have HB5 := hide (HB.out.grown hg5 HB.out.size (fun g hg => by injection hg with hg; omega)); have HW5 := hide hw5; clear hw5 hg5))
                   go_roundw
                   case rel => exact ⟨k + 1, (upT a2 b2).1, (upT a2 b2).2, pairF p xv, pairF p yv, by omega, by go_num, rfl, rfl, HW5.out, by omega, HL.out, HB5.out⟩
                   case measure => simp [intOf]; omega)
          · have hd : ps.drop k = [] := List.drop_eq_nil_of_le (by omega)
            rw [hd] at hwlk
            clear hw2 hb2
            by_cases hz : b2 = 0
            · subst hz
              rw [wlk_nil0] at hwlk
              subst hwlk
              have HE := hide (show decide (some (xv, yv) = some (a, b)) = ((xv == a) && (yv == b)) by rw [Bool.eq_iff_iff]; simp)
              have HF := hide (BX.out.trans (HB.out.mono BX.out.size))
              cases hq : (xv == a)
              · go_wp2
                repeat (rw [Exit.noGoto_ret])
                go_ret
                exact ⟨by rw [HE.out, hq]; rfl, HF.out⟩
              · go_wp2
                repeat (rw [Exit.noGoto_ret])
                go_ret
                exact ⟨by rw [HE.out, hq]; rfl, HF.out⟩
            · have qz : ((b2 : Int) == 0) = false := by simp; omega
              rw [wlk_nil hz] at hwlk
              subst hwlk
              have HF := hide (BX.out.trans (HB.out.mono BX.out.size))
              go_wp2
              repeat (rw [Exit.noGoto_ret])
              go_ret
              exact ⟨rfl, HF.out⟩
theorem ext_none (a b : Int) (mm nn : Nat) (A : Option Addr) (pcap : Nat) (w : World) (hm1 : 1 ≤ mm) (hmn : mm < nn) (hn : nn ≤ 4096) (hpow : ¬isPow mm) :
  Calls Tryz.prog 37 #[.int .u64 a, .int .u64 b, .int .i64 (mm : Int), .int .i64 (nn : Int), .slice A 0 pcap] w fun e w' => e = .returned (.bool false) ∧ Below w.heap.size w w' := by
 have q1 : decide ((nn : Int) < 1) = false := decide_eq_false (by omega); have q2 : decide (4096 < (nn : Int)) = false := decide_eq_false (by omega); have q3 : decide ((mm : Int) < 1) = false := decide_eq_false (by omega); have q4 : decide ((nn : Int) < mm) = false := decide_eq_false (by omega); have q5 : decide (nn < mm) = false := decide_eq_false (by omega); have q6 : ((mm : Int) == (nn : Int)) = false := by simp; omega
 have hb0 := and_pred hm1 (by omega); have hz0 : ¬(mm &&& (mm - 1) = 0) := fun e => hpow ((isPow_iff hm1 (by omega)).2 e)
 obtain ⟨z, hz⟩ : ∃ z, z = mm &&& (mm - 1) := ⟨_, rfl⟩; rw [← hz] at hb0 hz0; have q7 : ((z : Int) == 0) = false := by simp; omega
 have p1 : (0 : Int) ≤ (mm : Int) - 1 := by omega
 have p2 : (mm : Int) - 1 ≤ 5000 := by omega
 clear hpow hz
 go_enter Tryz.func37, Tryz.ntmps37
 go_wp2
 go_step3
 go_wp2
 repeat (rw [Exit.noGoto_ret])
 go_ret
 exact ⟨rfl, Below.refl _ _⟩
theorem ext_same (a b : Int) (nn : Nat) (A : Option Addr) (n c : Nat) (w : World) (hn1 : 1 ≤ nn) (hn : nn ≤ 4096) :
  Calls Tryz.prog 37 #[.int .u64 a, .int .u64 b, .int .i64 (nn : Int), .int .i64 (nn : Int), .slice A n c] w fun e w' => e = .returned (.bool (decide (n = 0) && (a == b))) ∧ Below w.heap.size w w' := by
 have q1 : decide ((nn : Int) < 1) = false := decide_eq_false (by omega); have q2 : decide (4096 < (nn : Int)) = false := decide_eq_false (by omega)
 by_cases h0 : n = 0
 ·subst h0; rw [decide_eq_true rfl, Bool.true_and]
  go_enter Tryz.func37, Tryz.ntmps37
  go_wp2
  go_step3
  go_wp2
  repeat (rw [Exit.noGoto_ret])
  go_ret
  exact ⟨rfl, Below.refl _ _⟩
 ·rw [decide_eq_false h0, Bool.false_and]; have q0 : ((n : Int) == 0) = false := by simp; omega
  clear h0
  go_enter Tryz.func37, Tryz.ntmps37
  go_wp2
  go_step3
  go_wp2
  repeat (rw [Exit.noGoto_ret])
  go_ret
  exact ⟨rfl, Below.refl _ _⟩
theorem Extended_any (a b m n : Int) (A : Option Addr) (c : Nat) (path : List Int) (w : World) (hp : path.length ≤ 1000) (hc : path.length ≤ c) (h : KS .u64 w A path) :
  Calls Tryz.prog 37 #[.int .u64 a, .int .u64 b, .int .i64 m, .int .i64 n, .slice A path.length c] w fun e w' => e = .returned (.bool (growS a b m n path)) ∧ Below w.heap.size w w' := by
 by_cases hbad : n < 1 ∨ 4096 < n ∨ m < 1 ∨ n < m
 ·have hr : growS a b m n path = false := if_pos hbad; rw [hr]; have hcase : decide (n < 1) = true ∨ decide (n < 1) = false ∧ decide (4096 < n) = true ∨ decide (n < 1) = false ∧ decide (4096 < n) = false ∧ decide (m < 1) = true ∨ decide (n < 1) = false ∧ decide (4096 < n) = false ∧ decide (m < 1) = false ∧ decide (n < m) = true := by
   simp only [decide_eq_true_eq, decide_eq_false_iff_not]; omega
  clear hr hbad; rcases hcase with q1 | ⟨q1, q2⟩ | ⟨q1, q2, q3⟩ | ⟨q1, q2, q3, q4⟩
  all_goals
   go_enter Tryz.func37, Tryz.ntmps37
   go_wp2
   go_step3
   go_wp2
   repeat (rw [Exit.noGoto_ret])
   go_ret
   exact ⟨rfl, Below.refl _ _⟩
 ·obtain ⟨mm, rfl⟩ : ∃ j : Nat, m = j := ⟨m.toNat, by omega⟩; obtain ⟨nn, rfl⟩ : ∃ j : Nat, n = j := ⟨n.toNat, by omega⟩; have hr : growS a b mm nn path = decide (growO pairF a mm nn true path = some (a, b)) := if_neg hbad; rw [hr]
  by_cases he : mm = nn
  ·subst he; have := ext_same a b mm A path.length c w (by omega) (by omega); rw [growO_mark]; have e : decide ((if path = [] then some (a, a) else none) = some (a, b)) = (decide (path.length = 0) && (a == b)) := by
    rw [Bool.eq_iff_iff]; cases path <;> simp
   rw [e]; exact this
  ·by_cases hpow : isPow mm
   ·exact ext_pow a b mm nn A c path w hp (by omega) (by omega) (by omega) hpow h
   ·cases path with
    | nil =>
     have := ext_none a b mm nn A c w (by omega) (by omega) (by omega) hpow; rw [growO_nil (by omega)]; exact this
    | cons c0 ps =>
     exact ext_odd a b mm nn A c0 ps c w (by simp at hp; omega) (by simpa using hc) (by omega) (by omega) (by omega) hpow h
theorem rPair_any (a b : Int) (w : World) : Calls Tryz.prog 140 #[.int .u64 a, .int .u64 b] w fun e w' => e = .returned (.int .u64 (pairF a b)) ∧ Below w.heap.size w w' := by
 obtain ⟨i0, hi, hz0, hz1, hz2⟩ := info_parts infoB; have HS := hide fun A c l W hn s => rSum_any A c l W hn s
 have O1 := hide (show OwnK .u8 5 (w.alloc (.cells #[.int .u8 1] 5)) w.heap.size (.slice (some ⟨w.heap.size, 0, none⟩) 1 1) [1] from ⟨rfl, .inr ⟨w.heap.size, 1, #[.int .u8 1], rfl, Nat.le_refl _, heap_alloc_new w _, Nat.le_refl _, by simp [maxLen], rfl, rfl⟩⟩); have B1 := hide ((Below.refl w.heap.size w).alloc (Nat.le_refl _) (.cells #[.int .u8 1] 5))
 go_enter Tryz.func140, Tryz.ntmps140
 go_upto_region 2 with (first
  | (go_at_call 154; refine (eight_any a _).mono ?_; rintro e w2 ⟨v2, rfl, ho2, hb2⟩; have O2 := hide (O1.out.below hb2); have B2 := hide (B1.out.trans (hb2.mono B1.out.size)); obtain ⟨A2, c2, rfl, hl2, hm2, hk2⟩ := ho2.form; have K2 := hide hk2; clear ho2 hb2 hk2)
  | (at_builtin; refine wpList_append_rd _ rfl _ _ 174 rfl w.heap.size 5 i0 _ 1 1 Tryz.underlying174 hi hz0 hz1 hz2 rfl (by decide) _ _ _ rfl O2.out A2 8 c2 ((octL a).map (Value.int .u8)) rfl rfl K2.out (kone _) (by simp [maxLen]) (by simp) B2.out.size ?_; intro v6 w6 hown6 hgrow6 _; have O6 := hide (show OwnK .u8 5 w6 w.heap.size v6 ([1] ++ octL a) from OwnK.app hown6 rfl rfl); have B6 := hide (B2.out.grown hgrow6 B2.out.size (fun g hg => (O2.out.lt g hg).1)); clear hown6 hgrow6))
 go_wp2_with (first
  | (go_at_call 154; refine (eight_any b _).mono ?_; rintro e w7 ⟨v7, rfl, ho7, hb7⟩; have O7 := hide (O6.out.below hb7); have B7 := hide (B6.out.trans (hb7.mono B6.out.size)); obtain ⟨A7, c7, rfl, hl7, hm7, hk7⟩ := ho7.form; have K7 := hide hk7; clear ho7 hb7 hk7)
  | (at_builtin; refine wpList_append_rd _ rfl _ _ 174 rfl w.heap.size 5 i0 _ 1 1 Tryz.underlying174 hi hz0 hz1 hz2 rfl (by decide) _ _ _ rfl O7.out A7 8 c7 ((octL b).map (Value.int .u8)) rfl rfl K7.out (kone _) (by simp [maxLen, octL]) (by simp [octL]) B7.out.size ?_; intro v8 w8 hown8 hgrow8 _; have O8 := hide (show OwnK .u8 5 w8 w.heap.size v8 ([1] ++ octL a ++ octL b) from OwnK.app hown8 rfl rfl); have B8 := hide (B7.out.grown hgrow8 B7.out.size (fun g hg => (O7.out.lt g hg).1)); obtain ⟨A8, c8, rfl, hl8, hm8, hk8⟩ := O8.out.form; have K8 := hide hk8; clear hown8 hgrow8 hk8)
  | (go_at_call 124; refine (HS.out A8 c8 _ _ (by simp [octL]) K8.out).mono ?_; rintro e w4 ⟨rfl, rfl⟩))
 go_ret
 exact ⟨rfl, B8.out⟩
theorem hf_eq {e n : Nat} (h1 : 2 ^ e < n) (h2 : n ≤ 2 * 2 ^ e) : 2 ^ e = hf n := by
 have h3 := hf_max h1; have hn : 2 ≤ n := by have := Nat.two_pow_pos e; omega
 obtain ⟨s1, s2, s3⟩ := hf_spec hn; have h4 : hf n < 2 ^ (e + 1) := by rw [Nat.pow_succ]; omega
 unfold hf at h4 h3 ⊢; have := pow_le_iff h4; have := Nat.pow_le_pow_right (n := 2) (by omega) (show Nat.log2 (n - 1) ≤ e by omega); omega
theorem rHalf_any (n : Nat) (w : World) (h : 2 ≤ n) (hn : n ≤ 10000) : Calls Tryz.prog 139 #[.int .i64 n] w fun e w' => e = .returned (.int .i64 (hf n)) ∧ w = w' := by
 go_enter Tryz.func139, Tryz.ntmps139
 go_wp2
 go_loopw [3] (fun u wr => ∃ k : Nat, u = .int .i64 k ∧ (∃ e, k = 2 ^ e) ∧ 1 ≤ k ∧ k < n ∧ wr = w) (fun u _ => n - (intOf u).toNat)
 case atStart => exact ⟨1, rfl, ⟨0, rfl⟩, Nat.le_refl _, by omega, rfl⟩
 case round =>
  obtain ⟨k, rfl, hp, hk1, hkn, rfl⟩ := hrel; have p1 : (0 : Int) ≤ 2 * (k : Int) := by omega
  have p2 : 2 * (k : Int) ≤ 20000 := by omega
  by_cases hlt : 2 * k < n
  ·have d1 : decide (2 * (k : Int) < (n : Int)) = true := decide_eq_true (by omega); have HP := hide (show ∃ e, 2 * k = 2 ^ e by obtain ⟨e, rfl⟩ := hp; exact ⟨e + 1, by rw [Nat.pow_succ]; omega⟩); clear hp
   go_wp2
   go_roundw
   case rel => exact ⟨2 * k, by go_num, HP.out, by omega, hlt, by trivial⟩
   case measure => simp [intOf]; omega
  ·have d1 : decide (2 * (k : Int) < (n : Int)) = false := decide_eq_false (by omega); have HP := hide (show k = hf n by obtain ⟨e, rfl⟩ := hp; exact hf_eq hkn (by omega)); clear hp
   go_wp2
   go_ret
   exact ⟨by rw [← HP.out]; rfl, rfl⟩
theorem rroot_any : ∀ (n : Nat) (A : Option Addr) (c : Nat) (l : List Int) (w : World), l.length = n → 1 ≤ n → n ≤ 10000 → n ≤ c → KS .u64 w A l →
  Calls Tryz.prog 146 #[.slice A n c] w fun e w' => e = .returned (.int .u64 (rootF l)) ∧ Below w.heap.size w w' := by
 intro n
 induction n using Nat.strongRecOn with
 | ind n ih =>
  intro A c l w hl h1 hn hc h; obtain ⟨b, o, rfl, hbl, hcell⟩ := h.at_ (i := 0) (by omega)
  by_cases hn2 : 2 ≤ n
  ·have hsp := rootT_split (lf := leafF) (pr := pairF) (l := l) (by omega); rw [hl] at hsp; obtain ⟨s1, s2, s3⟩ := hf_spec hn2; have HH := hide fun W => rHalf_any n W hn2 hn
   have hsh := KS.shift (n := hf n) h (by omega); obtain ⟨k, hk⟩ : ∃ k, k = hf n := ⟨_, rfl⟩; rw [← hk] at HH s1 s2 s3 hsp hsh; have hne : ((n : Int) == 1) = false := by simp; omega
   have p1 : (0 : Int) ≤ k := by omega
   have p2 : (k : Int) ≤ n := by omega
   have p3 : (k : Int) ≤ c := by omega
   have p4 : ¬ c = k := by omega
   have R1 := hide fun (x : Fut w.heap.size w) => ih k s2 (some ⟨b, o, none⟩) c (l.take k) x.v (by simp; omega) s1 (by omega) (by omega) (KS.below (h.pre k) x.h (Nat.le_refl _))
   have R2 := hide fun (x : Fut w.heap.size w) => ih (n - k) (by omega) (some ⟨b, o + k, none⟩) (c - k) (l.drop k) x.v (by simp; omega) (by omega) (by omega) (by omega) (KS.below hsh x.h (Nat.le_refl _))
   have HSP := hide hsp; clear hsp ih hk hsh hcell h; obtain ⟨u, hx⟩ : ∃ x, x = rootF (l.take k) := ⟨_, rfl⟩; obtain ⟨v, hy⟩ : ∃ x, x = rootF (l.drop k) := ⟨_, rfl⟩; have HX := hide hx; have HY := hide hy; rw [← hx] at R1; rw [← hy] at R2; clear hx hy
   go_enter Tryz.func146, Tryz.ntmps146
   go_upto_region 4 with (go_at_call 139; refine (HH.out _).mono ?_; rintro e w2 ⟨rfl, rfl⟩)
   refine wp_region_fut w.heap.size (by kernel_rfl) (by kernel_rfl) ?_
   repeat (go_big_quiet_step ((first | (go_at_call 146; (first | with_reducible exact Fut.call (Nat.le_refl _) (R1.out _) | with_reducible exact Fut.call (Nat.le_refl _) (R2.out _))) | (go_at_call 140; exact Fut.call (Nat.le_refl _) (rPair_any _ _ _)))))
   refine wpQuiet_nil ?_; intro w4 hq'; have hb4 := Fut.of hq'; clear hq'
   go_wp2
   go_ret
   exact ⟨by rw [show rootF l = pairF u v by rw [HX.out, HY.out]; exact HSP.out]; rfl, hb4⟩
  ·obtain rfl : n = 1 := by omega
   have hr : rootF l = leafF l[0] := by
    unfold rootF; rw [rootT_one (by omega)]
    congr 1
    cases l with
    | nil => simp at hl
    | cons x l => rfl
   rw [hr]; have c0 := hcell 0 (by omega); rw [Nat.add_zero] at c0; clear hr hcell ih
   go_enter Tryz.func146, Tryz.ntmps146
   go_wp2_with (go_at_call 164; refine (rLeaf_any _ _).mono ?_; rintro e w2 ⟨rfl, hb⟩)
   go_ret
   exact ⟨rfl, hb⟩
theorem rcheck_any (A : Option Addr) (c : Nat) (l : List Int) (w : World) : Calls Tryz.prog 145 #[.slice A l.length c] w fun e w' => e = .returned (.int .i64 (checkS l)) ∧ w = w' := by
 unfold checkS; obtain ⟨n, hn⟩ : ∃ n, n = l.length := ⟨_, rfl⟩; rw [← hn]; clear hn
 by_cases h0 : n = 0
 ·subst h0
  go_enter Tryz.func145, Tryz.ntmps145
  go_wp2
  go_ret
  exact ⟨rfl, rfl⟩
 ·have q0 : decide ((n : Int) < 1) = false := decide_eq_false (by omega)
  by_cases h1 : 4096 < n
  ·have q1 : decide (4096 < (n : Int)) = true := by simp; omega
   rw [if_neg h0, if_pos h1]
   go_enter Tryz.func145, Tryz.ntmps145
   go_wp2
   go_ret
   exact ⟨rfl, rfl⟩
  ·have q1 : decide (4096 < (n : Int)) = false := by simp; omega
   rw [if_neg h0, if_neg h1]
   go_enter Tryz.func145, Tryz.ntmps145
   go_wp2
   go_ret
   exact ⟨rfl, rfl⟩
theorem rRoot_any (A : Option Addr) (c : Nat) (l : List Int) (w : World) (hc : l.length ≤ c) (h : KS .u64 w A l) :
  Calls Tryz.prog 108 #[.slice A l.length c] w fun e w' => e = .returned (.tuple #[.int .u64 (rootS l).1, .int .i64 (rootS l).2]) ∧ Below w.heap.size w w' := by
 have HC := hide fun W => rcheck_any A c l W
 unfold rootS
 by_cases hk : checkS l = 0
 ·obtain ⟨h1, h2⟩ := checkS_ok hk; have R := hide (rroot_any l.length A c l w rfl h1 (by omega) hc h); rw [if_neg (by simpa using hk)]; rw [hk] at HC; clear hk
  go_enter Tryz.func108, Tryz.ntmps108
  go_wp2_with (first
   | (go_at_call 145; refine (HC.out _).mono ?_; rintro e w2 ⟨rfl, rfl⟩)
   | (go_at_call 146; refine R.out.mono ?_; rintro e w3 ⟨rfl, hb⟩))
  go_ret2
  exact ⟨rfl, hb⟩
 ·rw [if_pos hk]; obtain ⟨x, hx⟩ : ∃ x, x = checkS l := ⟨_, rfl⟩; rw [← hx] at HC hk ⊢; have q : (x != 0) = true := by simp [hk]
  clear hk hx
  go_enter Tryz.func108, Tryz.ntmps108
  go_wp2_with (go_at_call 145; refine (HC.out _).mono ?_; rintro e w2 ⟨rfl, rfl⟩)
  go_ret2
  exact ⟨rfl, Below.refl _ _⟩
def leadF (d : Int) (i n : Nat) (path : List Int) : Int × Bool := leadJ leafF pairF d i n path
theorem last_cell {w : World} {b o : Nat} {ps : List Int} {p : Int} (h : ∀ i (hi : i < (ps ++ [p]).length), w.cell? ⟨b, o + i, none⟩ = some (.int .u64 (ps ++ [p])[i])) : w.cell? ⟨b, o + ps.length, none⟩ = some (.int .u64 p) := by
 have := h ps.length (by simp); rw [this]; simp
theorem ks_init {w : World} {A : Option Addr} {ps : List Int} {p : Int} (h : KS .u64 w A (ps ++ [p])) : KS .u64 w A ps := by simpa using h.pre ps.length
theorem rlead_any : ∀ (n i : Nat) (d : Int) (A : Option Addr) (c : Nat) (path : List Int) (w : World), n ≤ 10000 → i < n → path.length ≤ 100 → path.length ≤ c → KS .u64 w A path →
  Calls Tryz.prog 162 #[.int .u64 d, .int .i64 i, .int .i64 n, .slice A path.length c] w fun e w' => e = .returned (.tuple #[.int .u64 (leadF d i n path).1, .bool (leadF d i n path).2]) ∧ Below w.heap.size w w' := by
 intro n
 induction n using Nat.strongRecOn with
 | ind n ih =>
  intro i d A c path w hn hin hL hc h
  by_cases hn2 : 2 ≤ n
  ·obtain ⟨s1, s2, s3⟩ := hf_spec hn2; have hne : ((n : Int) == 1) = false := by simp; omega
   rcases snoc_cases path with rfl | ⟨ps, p, rfl⟩
   ·have HE := hide (show leadF d i n [] = (0, false) from leadJ_nil hn2); rw [HE.out]; clear ih h
    go_enter Tryz.func162, Tryz.ntmps162
    go_wp2
    go_ret2
    exact ⟨rfl, Below.refl _ _⟩
   ·have HL := hide (@leadJ_left leafF pairF d i n ps p hn2); have HR := hide (@leadJ_right leafF pairF d i n ps p hn2); obtain ⟨b, o, rfl, hbl, hcell⟩ := h.at_ (i := ps.length) (by simp); have cp := last_cell hcell; have hp := ks_init h; have HH := hide fun W => rHalf_any n W hn2 hn
    have hlen : (ps ++ [p]).length = ps.length + 1 := by simp
    rw [hlen] at hL hc ⊢; obtain ⟨L, hLe⟩ : ∃ L, L = ps.length := ⟨_, rfl⟩; obtain ⟨k, hk⟩ : ∃ k, k = hf n := ⟨_, rfl⟩; rw [← hk] at HH s1 s2 s3 HL HR; rw [← hLe] at cp hL hc ⊢; have p1 : ((L : Int) + 1 == 0) = false := by simp; omega
    clear hcell hlen h
    by_cases hik : i < k
    ·have d3 : decide ((i : Int) < (k : Int)) = true := decide_eq_true (by omega); have d4 : decide (i < k) = true := decide_eq_true (by omega); have I1 := hide (ih k s2 i d (some ⟨b, o, none⟩) c ps w (by omega) hik (by omega) (by omega) hp); obtain ⟨x, hx⟩ : ∃ x, x = (leadF d i k ps).1 := ⟨_, rfl⟩; obtain ⟨y, hy⟩ : ∃ x, x = (leadF d i k ps).2 := ⟨_, rfl⟩; have HE := hide (show leadF d i n (ps ++ [p]) = (pairF x p, y) by rw [hx, hy]; exact HL.out hik); rw [HE.out]; rw [← hx, ← hy, ← hLe] at I1; clear hp HL HR ih hk hik hx hy hLe
     go_enter Tryz.func162, Tryz.ntmps162
     go_wp2_with (first
      | (go_at_call 139; refine (HH.out _).mono ?_; rintro e w2 ⟨rfl, rfl⟩)
      | (go_at_call 162; with_reducible refine I1.out.mono ?_; rintro e w3 ⟨rfl, hb3⟩)
      | (go_at_call 140; refine (rPair_any _ _ _).mono ?_; rintro e w4 ⟨rfl, hb4⟩))
     go_ret2
     exact ⟨rfl, hb3.trans (hb4.mono hb3.size)⟩
    ·have d3 : decide ((i : Int) < (k : Int)) = false := decide_eq_false (by omega); have d4 : decide (i < k) = false := decide_eq_false (by omega); have I1 := hide (ih (n - k) (by omega) (i - k) d (some ⟨b, o, none⟩) c ps w (by omega) (by omega) (by omega) (by omega) hp); obtain ⟨x, hx⟩ : ∃ x, x = (leadF d (i - k) (n - k) ps).1 := ⟨_, rfl⟩; obtain ⟨y, hy⟩ : ∃ x, x = (leadF d (i - k) (n - k) ps).2 := ⟨_, rfl⟩; have HE := hide (show leadF d i n (ps ++ [p]) = (pairF p x, y) by rw [hx, hy]; exact HR.out hik); rw [HE.out]; rw [← hx, ← hy, ← hLe, show ((i - k : Nat) : Int) = (i : Int) - k by omega, show ((n - k : Nat) : Int) = (n : Int) - k by omega] at I1; have q1 : (0 : Int) ≤ (i : Int) - k := by omega
     have q2 : (i : Int) - k ≤ 10000 := by omega
     have q3 : (0 : Int) ≤ (n : Int) - k := by omega
     have q4 : (n : Int) - k ≤ 10000 := by omega
     clear hp HL HR ih hk hik hx hy hLe
     go_enter Tryz.func162, Tryz.ntmps162
     go_wp2_with (first
      | (go_at_call 139; refine (HH.out _).mono ?_; rintro e w2 ⟨rfl, rfl⟩)
      | (go_at_call 162; with_reducible refine I1.out.mono ?_; rintro e w3 ⟨rfl, hb3⟩)
      | (go_at_call 140; refine (rPair_any _ _ _).mono ?_; rintro e w4 ⟨rfl, hb4⟩))
     go_ret2
     exact ⟨rfl, hb3.trans (hb4.mono hb3.size)⟩
  ·obtain rfl : n = 1 := by omega
   obtain rfl : i = 0 := by omega
   have HE := hide (show leadF d 0 1 path = (leafF d, path.isEmpty) from leadJ_one (by omega)); rw [HE.out]; clear ih; cases path with
   | nil =>
    clear h
    go_enter Tryz.func162, Tryz.ntmps162
    go_wp2_with (go_at_call 164; refine (rLeaf_any _ _).mono ?_; rintro e w2 ⟨rfl, hb⟩)
    go_ret2
    exact ⟨rfl, hb⟩
   | cons p ps =>
    rw [List.length_cons]; have p1 : ((ps.length : Int) + 1 == 0) = false := by simp; omega
    clear h
    go_enter Tryz.func162, Tryz.ntmps162
    go_wp2_with (go_at_call 164; refine (rLeaf_any _ _).mono ?_; rintro e w2 ⟨rfl, hb⟩)
    go_ret2
    exact ⟨rfl, hb⟩
theorem leadF_long {d : Int} {i n : Nat} {path : List Int} (hn : n ≤ 4096) (h : 20 < path.length) : leadO leafF pairF d i n path = none := by
 have h1 := lead_len (lf := leafF) (pr := pairF) n d i path; have h2 := plen_le 12 n i (by omega); unfold leadO; rw [h1, if_neg (by simp; omega)]
theorem rIncluded_any (root leaf i n : Int) (A : Option Addr) (c : Nat) (path : List Int) (w : World) (hp : path.length ≤ 100) (hc : path.length ≤ c) (h : KS .u64 w A path) :
  Calls Tryz.prog 137 #[.int .u64 root, .int .u64 leaf, .int .i64 i, .int .i64 n, .slice A path.length c] w fun e w' => e = .returned (.bool (inclS root leaf i n path)) ∧ Below w.heap.size w w' := by
 by_cases hbad : n < 1 ∨ 4096 < n ∨ i < 0 ∨ n ≤ i
 ·have hr : inclS root leaf i n path = false := if_pos hbad; rw [hr]; have hcase : decide (n < 1) = true ∨ decide (n < 1) = false ∧ (decide (4096 < n) = true ∨ decide (4096 < n) = false ∧ (decide (i < 0) = true ∨ decide (i < 0) = false ∧ decide (n ≤ i) = true)) := by
   simp only [decide_eq_true_eq, decide_eq_false_iff_not]; omega
  clear hbad hr h; rcases hcase with q1 | ⟨q1, q2 | ⟨q2, q3 | ⟨q3, q4⟩⟩⟩
  all_goals
   go_enter Tryz.func137, Tryz.ntmps137
   go_wp2
   go_ret
   exact ⟨rfl, Below.refl _ _⟩
 ·obtain ⟨nn, rfl⟩ : ∃ j : Nat, n = j := ⟨n.toNat, by omega⟩; obtain ⟨ii, rfl⟩ : ∃ j : Nat, i = j := ⟨i.toNat, by omega⟩; have hr : inclS root leaf ii nn path = decide (leadO leafF pairF leaf ii nn path = some root) := by
   unfold inclS; rw [if_neg hbad, Int.toNat_natCast, Int.toNat_natCast, lead_walk nn leaf ii path (by omega)]; rfl
  rw [hr]; have q1 : decide ((nn : Int) < 1) = false := decide_eq_false (by omega); have q2 : decide (4096 < (nn : Int)) = false := decide_eq_false (by omega); have q3 : decide ((ii : Int) < 0) = false := decide_eq_false (by omega); have q4 : decide ((nn : Int) ≤ ii) = false := decide_eq_false (by omega); have q4' : decide (nn ≤ ii) = false := decide_eq_false (by omega)
  by_cases hlong : 20 < path.length
  ·have q5 : decide (20 < (path.length : Int)) = true := decide_eq_true (by omega); have q5' : decide (20 < path.length) = true := decide_eq_true (by omega); rw [leadF_long (by omega) hlong]; clear hbad hr h
   go_enter Tryz.func137, Tryz.ntmps137
   go_wp2
   go_ret
   exact ⟨rfl, Below.refl _ _⟩
  ·have q5 : decide (20 < (path.length : Int)) = false := decide_eq_false (by omega); have q5' : decide (20 < path.length) = false := decide_eq_false (by omega); have R := hide (rlead_any nn ii leaf A c path w (by omega) (by omega) (by omega) hc h); obtain ⟨x, hx⟩ : ∃ x, x = (leadF leaf ii nn path).1 := ⟨_, rfl⟩; obtain ⟨y, hy⟩ : ∃ x, x = (leadF leaf ii nn path).2 := ⟨_, rfl⟩; rw [← hx, ← hy] at R; have HE : decide (leadO leafF pairF leaf ii nn path = some root) = (y && (x == root)) := by
    unfold leadO; rw [show leadJ leafF pairF leaf ii nn path = (x, y) by rw [hx, hy]; rfl]; cases y <;> simp; rw [Bool.eq_iff_iff]; simp
   rw [HE]; clear hbad hr h hx hy HE; cases y
   ·go_enter Tryz.func137, Tryz.ntmps137
    go_wp2_with (go_at_call 162; with_reducible refine R.out.mono ?_; rintro e w3 ⟨rfl, hb3⟩)
    go_ret
    exact ⟨rfl, hb3⟩
   ·go_enter Tryz.func137, Tryz.ntmps137
    go_wp2_with (go_at_call 162; with_reducible refine R.out.mono ?_; rintro e w3 ⟨rfl, hb3⟩)
    go_ret
    exact ⟨by simp, hb3⟩
theorem step_append_rd {P : Program} {ops : Array Oper} {o : Oper} {a : Act} {w : World} {K : Act → World → Prop} {Q : Exit → Act → World → Prop} {E : Prop} (hgd : o.guard = none) (s x : Operand) (t : TypeId)
  (ho : o.op = .call { callee := .builtin .append, args := #[s, x], argTypes := #[t, t] })
  (base : Nat) (e : TypeId) (i : TypeInfo) (z : Value) (size bytes : Nat) (ht : P.underlying t = some (.slice e)) (hi : P.info? e = some i) (hz : i.zero = some z)
  (hsize : i.size = size) (hby : i.bytes = bytes) (hzs : z.cells.size = size) (hsz : 0 < size)
  (v : Value) (n : Nat) (xs : List Value) (hs : a.eval s = v) (hown : w.ownsRow base e size v n xs)
  (A : Option Addr) (m c : Nat) (news : List Value) (hx : a.eval x = .slice A m c) (hl : news.length = m * size) (hr : Rd w A news) (h1 : ∀ u ∈ news, u.oneCell' = true)
  (h63 : n + m ≤ maxLen) (hbytes : (n + m) * bytes ≤ 140737488355328) (hbase : base ≤ w.heap.size)
  (h : ∀ v' w', w'.ownsRow base e size v' (n + m) (xs ++ news) → w.grownBy w' v.ownBlock → (v'.ownBlock = v.ownBlock ∨ v'.ownBlock = some w.heap.size) → K (a.put o.dst v') w') :
  if Region.wanted o (yielded ops a.tmps) = true then Oper.wp P o a w K Q else E := by
 have hw : Region.wanted o (yielded ops a.tmps) = true := by simp [Region.wanted, hgd]
 rw [if_pos hw]; exact wp_append_rd w s x t ho base e i z size bytes ht hi hz hsize hby hzs hsz v n xs hs hown A m c news hx hl hr h1 h63 hbytes hbase h
theorem inclF_one {l : List Int} {i : Nat} (h : ¬2 ≤ l.length) : inclF l i = [] := inclT_one h
theorem inclF_len {l : List Int} {i : Nat} (h : l.length ≤ 10000) : (inclF l i).length ≤ 14 := by
 have h1 := incl_len (lf := leafF) (pr := pairF) l.length l rfl i; unfold inclF; rw [h1]; exact plen_le 14 _ _ (by omega)
theorem extF_len {l : List Int} {i : Nat} {mark : Bool} (h : l.length ≤ 10000) : (extF l i mark).length ≤ 15 := by
 have h1 := ext_len (lf := leafF) (pr := pairF) l.length l rfl i mark; unfold extF; rw [h1]; exact glen_le 14 _ _ _ (by omega)
theorem rinclude_any : ∀ (n : Nat) (A : Option Addr) (c : Nat) (l : List Int) (i : Nat) (w : World), l.length = n → 1 ≤ n → n ≤ 10000 → n ≤ c → i < n → KS .u64 w A l →
  Calls Tryz.prog 147 #[.slice A n c, .int .i64 i] w fun e w' => ∃ v, e = .returned v ∧ OwnK .u64 23 w' w.heap.size v (inclF l i) ∧ Below w.heap.size w w' := by
 intro n
 induction n using Nat.strongRecOn with
 | ind n ih =>
  intro A c l i w hl h1 hn hc hin h
  by_cases hn2 : 2 ≤ n
  ·obtain ⟨b, o, rfl, hbl, hcell⟩ := h.at_ (i := 0) (by omega); have HL := hide (@inclF_left l i (by omega)); have HR := hide (@inclF_right l i (by omega)); rw [hl] at HL HR; obtain ⟨s1, s2, s3⟩ := hf_spec hn2; have HH := hide fun W => rHalf_any n W hn2 hn
   have hsh := KS.shift (n := hf n) h (by omega); obtain ⟨k, hk⟩ : ∃ k, k = hf n := ⟨_, rfl⟩; rw [← hk] at HH s1 s2 s3 HL HR hsh; have hne : ((n : Int) == 1) = false := by simp; omega
   have p1 : (0 : Int) ≤ k := by omega
   have p2 : (k : Int) ≤ n := by omega
   have p3 : (k : Int) ≤ c := by omega
   have p4 : ¬ c = k := by omega
   obtain ⟨i0, hi, hz0, hz1, hz2⟩ := info_parts infoU; have R1 := hide fun W (s : Below w.heap.size w W) => rroot_any k (some ⟨b, o, none⟩) c (l.take k) W (by simp; omega) s1 (by omega) (by omega) (KS.below (h.pre k) s (Nat.le_refl _))
   have R2 := hide fun W (s : Below w.heap.size w W) => rroot_any (n - k) (some ⟨b, o + k, none⟩) (c - k) (l.drop k) W (by simp; omega) (by omega) (by omega) (by omega) (KS.below hsh s (Nat.le_refl _))
   by_cases hik : i < k
   ·have d3 : decide ((i : Int) < (k : Int)) = true := decide_eq_true (by omega); have d4 : decide (i < k) = true := decide_eq_true (by omega); have I1 := hide fun W (s : Below w.heap.size w W) => (ih k s2 (some ⟨b, o, none⟩) c (l.take k) i W (by simp; omega) s1 (by omega) (by omega) hik (KS.below (h.pre k) s (Nat.le_refl _))).mono (R' := fun e w' => ∃ v, e = .returned v ∧ OwnK .u64 23 w' w.heap.size v (inclF (l.take k) i) ∧ Below W.heap.size W w' ∧ w.heap.size ≤ w'.heap.size ∧ Below w.heap.size w w') fun e w' ⟨v, he, ho, hb⟩ => ⟨v, he, ho.weak s.size, hb, Nat.le_trans s.size hb.size, s.trans (hb.mono s.size)⟩
    have H14 := inclF_len (l := l.take k) (i := i) (by simp; omega); have HE := hide (HL.out hik); clear hsh hcell h HL HR R1 ih hk hik
    go_enter Tryz.func147, Tryz.ntmps147
    go_upto_region 5 with (go_at_call 139; refine (HH.out _).mono ?_; rintro e w2 ⟨rfl, rfl⟩)
    go_region_held3 (fun w' => Below w.heap.size w w') ((repeat (first | exact Below.refl _ _ | (refine Below.drew ?_) | (refine Below.alloc ?_ (by (first | ((repeat (first | simp only [World.size_alloc] | simp only [heap_drew])); omega) | omega | (simp; omega))) _) | (refine Below.trans ?_ (Below.mono (by assumption) (by (first | ((repeat (first | simp only [World.size_alloc] | simp only [heap_drew])); omega) | omega | (simp; omega))))))))
     (first
      | (go_at_call 147; with_reducible refine (I1.out _ (by assumption)).mono ?_; rintro e w3 ⟨v3, rfl, ho3, hb3, hs3, hw3⟩)
      | (go_at_call 146; with_reducible refine (R2.out _ (by assumption)).mono ?_; rintro e w4 ⟨rfl, hb4⟩; have hs4 := hb4.size; (repeat (first | simp only [World.size_alloc] at hs4 | simp only [heap_drew] at hs4)))
      | (refine step_append_rd rfl _ _ 32 (by rfl) w.heap.size 23 i0 _ 1 8 Tryz.underlying32 hi hz0 hz1 hz2 rfl (by decide) _ _ _ (by rfl) (OwnK.below ho3 (by (repeat (first | exact Below.refl _ _ | (refine Below.drew ?_) | (refine Below.alloc ?_ (by (first | ((repeat (first | simp only [World.size_alloc] | simp only [heap_drew])); omega) | omega | (simp; omega))) _) | (refine Below.trans ?_ (Below.mono (by assumption) (by (first | ((repeat (first | simp only [World.size_alloc] | simp only [heap_drew])); omega) | omega | (simp; omega))))))))) _ 1 1 [.int .u64 (rootF (l.drop k))] (by rfl) rfl (Rd.new_row _ _ _) (by simp [Value.oneCell']) (by simp only [maxLen]; omega) (by omega) (show Below w.heap.size w _ by (repeat (first | exact Below.refl _ _ | (refine Below.drew ?_) | (refine Below.alloc ?_ (by (first | ((repeat (first | simp only [World.size_alloc] | simp only [heap_drew])); omega) | omega | (simp; omega))) _) | (refine Below.trans ?_ (Below.mono (by assumption) (by (first | ((repeat (first | simp only [World.size_alloc] | simp only [heap_drew])); omega) | omega | (simp; omega)))))))).size ?_; intro v6 w6 hown6 hgrow6 _; have hb6 : Below w.heap.size w w6 := (show Below w.heap.size w _ by (repeat (first | exact Below.refl _ _ | (refine Below.drew ?_) | (refine Below.alloc ?_ (by (first | ((repeat (first | simp only [World.size_alloc] | simp only [heap_drew])); omega) | omega | (simp; omega))) _) | (refine Below.trans ?_ (Below.mono (by assumption) (by (first | ((repeat (first | simp only [World.size_alloc] | simp only [heap_drew])); omega) | omega | (simp; omega)))))))).grown hgrow6 (show Below w.heap.size w _ by (repeat (first | exact Below.refl _ _ | (refine Below.drew ?_) | (refine Below.alloc ?_ (by (first | ((repeat (first | simp only [World.size_alloc] | simp only [heap_drew])); omega) | omega | (simp; omega))) _) | (refine Below.trans ?_ (Below.mono (by assumption) (by (first | ((repeat (first | simp only [World.size_alloc] | simp only [heap_drew])); omega) | omega | (simp; omega)))))))).size (fun g hg => (World.ownsRow.lt ho3 g hg).1)))
    all_goals
     go_wp2
     go_ret
     exact ⟨_, rfl, by rw [HE.out]; exact OwnK.snoc hown6 rfl rfl, hb6⟩
   ·have d3 : decide ((i : Int) < (k : Int)) = false := decide_eq_false (by omega); have d4 : decide (i < k) = false := decide_eq_false (by omega); have q1 : (0 : Int) ≤ (i : Int) - k := by omega
    have q2 : (i : Int) - k ≤ 10000 := by omega
    have q3 : IntKind.i64.wrap ((i : Int) - k) = (i : Int) - k := IntWalk.i64_in _ (by omega); have I2 := ih (n - k) (by omega) (some ⟨b, o + k, none⟩) (c - k) (l.drop k) (i - k); rw [show ((i - k : Nat) : Int) = (i : Int) - k by omega] at I2; have I1 := hide fun W (s : Below w.heap.size w W) => (I2 W (by simp; omega) (by omega) (by omega) (by omega) (by omega) (KS.below hsh s (Nat.le_refl _))).mono (R' := fun e w' => ∃ v, e = .returned v ∧ OwnK .u64 23 w' w.heap.size v (inclF (l.drop k) (i - k)) ∧ Below W.heap.size W w' ∧ w.heap.size ≤ w'.heap.size ∧ Below w.heap.size w w') fun e w' ⟨v, he, ho, hb⟩ => ⟨v, he, ho.weak s.size, hb, Nat.le_trans s.size hb.size, s.trans (hb.mono s.size)⟩
    have H14 := inclF_len (l := l.drop k) (i := i - k) (by simp; omega); have HE := hide (HR.out hik); clear hsh hcell h HL HR R2 ih hk hik I2
    go_enter Tryz.func147, Tryz.ntmps147
    go_upto_region 6 with (go_at_call 139; refine (HH.out _).mono ?_; rintro e w2 ⟨rfl, rfl⟩)
    go_region_held3 (fun w' => Below w.heap.size w w') ((repeat (first | exact Below.refl _ _ | (refine Below.drew ?_) | (refine Below.alloc ?_ (by (first | ((repeat (first | simp only [World.size_alloc] | simp only [heap_drew])); omega) | omega | (simp; omega))) _) | (refine Below.trans ?_ (Below.mono (by assumption) (by (first | ((repeat (first | simp only [World.size_alloc] | simp only [heap_drew])); omega) | omega | (simp; omega))))))))
     (first
      | (go_at_call 147; go_loud (with_reducible refine (I1.out _ (by assumption)).mono ?_); rintro e w3 ⟨v3, rfl, ho3, hb3, hs3, hw3⟩)
      | (go_at_call 146; with_reducible refine (R1.out _ (by assumption)).mono ?_; rintro e w4 ⟨rfl, hb4⟩; have hs4 := hb4.size; (repeat (first | simp only [World.size_alloc] at hs4 | simp only [heap_drew] at hs4)))
      | (refine step_append_rd rfl _ _ 32 (by rfl) w.heap.size 23 i0 _ 1 8 Tryz.underlying32 hi hz0 hz1 hz2 rfl (by decide) _ _ _ (by rfl) (OwnK.below ho3 (by (repeat (first | exact Below.refl _ _ | (refine Below.drew ?_) | (refine Below.alloc ?_ (by (first | ((repeat (first | simp only [World.size_alloc] | simp only [heap_drew])); omega) | omega | (simp; omega))) _) | (refine Below.trans ?_ (Below.mono (by assumption) (by (first | ((repeat (first | simp only [World.size_alloc] | simp only [heap_drew])); omega) | omega | (simp; omega))))))))) _ 1 1 [.int .u64 (rootF (l.take k))] (by rfl) rfl (Rd.new_row _ _ _) (by simp [Value.oneCell']) (by simp only [maxLen]; omega) (by omega) (show Below w.heap.size w _ by (repeat (first | exact Below.refl _ _ | (refine Below.drew ?_) | (refine Below.alloc ?_ (by (first | ((repeat (first | simp only [World.size_alloc] | simp only [heap_drew])); omega) | omega | (simp; omega))) _) | (refine Below.trans ?_ (Below.mono (by assumption) (by (first | ((repeat (first | simp only [World.size_alloc] | simp only [heap_drew])); omega) | omega | (simp; omega)))))))).size ?_; intro v6 w6 hown6 hgrow6 _; have hb6 : Below w.heap.size w w6 := (show Below w.heap.size w _ by (repeat (first | exact Below.refl _ _ | (refine Below.drew ?_) | (refine Below.alloc ?_ (by (first | ((repeat (first | simp only [World.size_alloc] | simp only [heap_drew])); omega) | omega | (simp; omega))) _) | (refine Below.trans ?_ (Below.mono (by assumption) (by (first | ((repeat (first | simp only [World.size_alloc] | simp only [heap_drew])); omega) | omega | (simp; omega)))))))).grown hgrow6 (show Below w.heap.size w _ by (repeat (first | exact Below.refl _ _ | (refine Below.drew ?_) | (refine Below.alloc ?_ (by (first | ((repeat (first | simp only [World.size_alloc] | simp only [heap_drew])); omega) | omega | (simp; omega))) _) | (refine Below.trans ?_ (Below.mono (by assumption) (by (first | ((repeat (first | simp only [World.size_alloc] | simp only [heap_drew])); omega) | omega | (simp; omega)))))))).size (fun g hg => (World.ownsRow.lt ho3 g hg).1)))
    all_goals
     go_wp2
     go_ret
     exact ⟨_, rfl, by rw [HE.out]; exact OwnK.snoc hown6 rfl rfl, hb6⟩
  ·obtain rfl : n = 1 := by omega
   rw [inclF_one (by omega)]; clear ih h
   go_enter Tryz.func147, Tryz.ntmps147
   go_wp2
   go_ret
   exact ⟨_, rfl, OwnK.nil, Below.refl _ _⟩
theorem rInclude_anyF (A : Option Addr) (c : Nat) (l : List Int) (i : Int) (w : World) (hc : l.length ≤ c) (h : KS .u64 w A l) :
  Calls Tryz.prog 109 #[.slice A l.length c, .int .i64 i] w fun e w' => ∃ A' c', e = .returned (.tuple #[.slice A' (incS l i).1.length c', .int .i64 (incS l i).2]) ∧ (incS l i).1.length ≤ c' ∧ c' ≤ maxLen ∧ (KS .u64 w' A' (incS l i).1 ∧ FrA w A') ∧ Below w.heap.size w w' := by
 have HC := hide fun W => rcheck_any A c l W
 unfold incS
 by_cases hk : checkS l = 0
 ·obtain ⟨h1, h2⟩ := checkS_ok hk; rw [if_neg (by simpa using hk)]; rw [hk] at HC; clear hk
  by_cases hbad : i < 0 ∨ (l.length : Int) ≤ i
  ·rw [if_pos hbad]; have hcase : decide (i < 0) = true ∨ decide (i < 0) = false ∧ decide ((l.length : Int) ≤ i) = true := by
    simp only [decide_eq_true_eq, decide_eq_false_iff_not]; omega
   clear hbad h; rcases hcase with q1 | ⟨q1, q2⟩
   all_goals
    go_enter Tryz.func109, Tryz.ntmps109
    go_wp2_with (go_at_call 145; refine (HC.out _).mono ?_; rintro e w2 ⟨rfl, rfl⟩)
    go_ret2
    exact ⟨none, 0, rfl, Nat.le_refl _, by simp [maxLen], ⟨Rd.nil _ _, fun _ _ h => by cases h⟩, Below.refl _ _⟩
  ·rw [if_neg hbad]; obtain ⟨j, rfl⟩ : ∃ j : Nat, i = j := ⟨i.toNat, by omega⟩; have q1 : decide ((j : Int) < 0) = false := decide_eq_false (by omega); have q2 : decide ((l.length : Int) ≤ j) = false := decide_eq_false (by omega); have q3 : decide (l.length ≤ j) = false := decide_eq_false (by omega); have R := hide (rinclude_any l.length A c l j w rfl h1 (by omega) hc (by omega) h); rw [Int.toNat_natCast]; clear hbad h
   go_enter Tryz.func109, Tryz.ntmps109
   go_wp2_with (first
    | (go_at_call 145; refine (HC.out _).mono ?_; rintro e w2 ⟨rfl, rfl⟩)
    | (go_at_call 147; with_reducible refine R.out.mono ?_; rintro e w3 ⟨v3, rfl, ho3, hb3⟩; obtain ⟨A3, c3, rfl, hl3, hm3, hk3⟩ := ho3.form; have HK := hide hk3; have HF := hide ho3.fresh; clear ho3 hk3))
   go_ret2
   exact ⟨A3, c3, rfl, hl3, hm3, ⟨HK.out, HF.out⟩, hb3⟩
 ·rw [if_pos hk]; obtain ⟨x, hx⟩ : ∃ x, x = checkS l := ⟨_, rfl⟩; rw [← hx] at HC hk ⊢; have q : (x != 0) = true := by simp [hk]
  clear hk hx h
  go_enter Tryz.func109, Tryz.ntmps109
  go_wp2_with (go_at_call 145; refine (HC.out _).mono ?_; rintro e w2 ⟨rfl, rfl⟩)
  go_ret2
  exact ⟨none, 0, rfl, Nat.le_refl _, by simp [maxLen], ⟨Rd.nil _ _, fun _ _ h => by cases h⟩, Below.refl _ _⟩
theorem rextend_any : ∀ (n : Nat) (A : Option Addr) (c : Nat) (l : List Int) (m : Nat) (mark : Bool) (w : World), l.length = n → 1 ≤ m → m ≤ n → n ≤ 10000 → n ≤ c → KS .u64 w A l →
  Calls Tryz.prog 148 #[.slice A n c, .int .i64 m, .bool mark] w fun e w' => ∃ v, e = .returned v ∧ OwnK .u64 23 w' w.heap.size v (extF l m mark) ∧ Below w.heap.size w w' := by
 intro n
 induction n using Nat.strongRecOn with
 | ind n ih =>
  intro A c l m mark w hl h1 hmn hn hc h
  by_cases hn2 : 2 ≤ n ∧ m ≠ n
  ·obtain ⟨b, o, rfl, hbl, hcell⟩ := h.at_ (i := 0) (by omega); have HL := hide (@extF_left l m mark (by omega)); have HR := hide (@extF_right l m mark (by omega)); rw [hl] at HL HR; obtain ⟨s1, s2, s3⟩ := hf_spec hn2.1; have HH := hide fun W => rHalf_any n W hn2.1 hn
   have hsh := KS.shift (n := hf n) h (by omega); obtain ⟨k, hk⟩ : ∃ k, k = hf n := ⟨_, rfl⟩; rw [← hk] at HH s1 s2 s3 HL HR hsh; have hne : ((m : Int) == (n : Int)) = false := by simp; omega
   have p1 : (0 : Int) ≤ k := by omega
   have p2 : (k : Int) ≤ n := by omega
   have p3 : (k : Int) ≤ c := by omega
   have p4 : ¬ c = k := by omega
   obtain ⟨i0, hi, hz0, hz1, hz2⟩ := info_parts infoU; have R1 := hide fun W (s : Below w.heap.size w W) => rroot_any k (some ⟨b, o, none⟩) c (l.take k) W (by simp; omega) s1 (by omega) (by omega) (KS.below (h.pre k) s (Nat.le_refl _))
   have R2 := hide fun W (s : Below w.heap.size w W) => rroot_any (n - k) (some ⟨b, o + k, none⟩) (c - k) (l.drop k) W (by simp; omega) (by omega) (by omega) (by omega) (KS.below hsh s (Nat.le_refl _))
   by_cases hik : m ≤ k
   ·have d3 : decide ((m : Int) ≤ (k : Int)) = true := decide_eq_true (by omega); have d4 : decide (m ≤ k) = true := decide_eq_true (by omega); have I1 := hide fun W (s : Below w.heap.size w W) => (ih k s2 (some ⟨b, o, none⟩) c (l.take k) m mark W (by simp; omega) h1 hik (by omega) (by omega) (KS.below (h.pre k) s (Nat.le_refl _))).mono (R' := fun e w' => ∃ v, e = .returned v ∧ OwnK .u64 23 w' w.heap.size v (extF (l.take k) m mark) ∧ Below W.heap.size W w' ∧ w.heap.size ≤ w'.heap.size ∧ Below w.heap.size w w') fun e w' ⟨v, he, ho, hb⟩ => ⟨v, he, ho.weak s.size, hb, Nat.le_trans s.size hb.size, s.trans (hb.mono s.size)⟩
    have H14 := extF_len (l := l.take k) (i := m) (mark := mark) (by simp; omega); have HE := hide (HL.out hik); clear hsh hcell h HL HR R1 ih hk hik hn2
    go_enter Tryz.func148, Tryz.ntmps148
    go_upto_region 7 with (go_at_call 139; refine (HH.out _).mono ?_; rintro e w2 ⟨rfl, rfl⟩)
    go_region_held3 (fun w' => Below w.heap.size w w') ((repeat (first | exact Below.refl _ _ | (refine Below.drew ?_) | (refine Below.alloc ?_ (by (first | ((repeat (first | simp only [World.size_alloc] | simp only [heap_drew])); omega) | omega | (simp; omega))) _) | (refine Below.trans ?_ (Below.mono (by assumption) (by (first | ((repeat (first | simp only [World.size_alloc] | simp only [heap_drew])); omega) | omega | (simp; omega))))))))
     (first
      | (go_at_call 148; with_reducible refine (I1.out _ (by assumption)).mono ?_; rintro e w3 ⟨v3, rfl, ho3, hb3, hs3, hw3⟩)
      | (go_at_call 146; with_reducible refine (R2.out _ (by assumption)).mono ?_; rintro e w4 ⟨rfl, hb4⟩; have hs4 := hb4.size; (repeat (first | simp only [World.size_alloc] at hs4 | simp only [heap_drew] at hs4)))
      | (refine step_append_rd rfl _ _ 32 (by rfl) w.heap.size 23 i0 _ 1 8 Tryz.underlying32 hi hz0 hz1 hz2 rfl (by decide) _ _ _ (by rfl) (OwnK.below ho3 (by (repeat (first | exact Below.refl _ _ | (refine Below.drew ?_) | (refine Below.alloc ?_ (by (first | ((repeat (first | simp only [World.size_alloc] | simp only [heap_drew])); omega) | omega | (simp; omega))) _) | (refine Below.trans ?_ (Below.mono (by assumption) (by (first | ((repeat (first | simp only [World.size_alloc] | simp only [heap_drew])); omega) | omega | (simp; omega))))))))) _ 1 1 [.int .u64 (rootF (l.drop k))] (by rfl) rfl (Rd.new_row _ _ _) (by simp [Value.oneCell']) (by simp only [maxLen]; omega) (by omega) (show Below w.heap.size w _ by (repeat (first | exact Below.refl _ _ | (refine Below.drew ?_) | (refine Below.alloc ?_ (by (first | ((repeat (first | simp only [World.size_alloc] | simp only [heap_drew])); omega) | omega | (simp; omega))) _) | (refine Below.trans ?_ (Below.mono (by assumption) (by (first | ((repeat (first | simp only [World.size_alloc] | simp only [heap_drew])); omega) | omega | (simp; omega)))))))).size ?_; intro v6 w6 hown6 hgrow6 _; have hb6 : Below w.heap.size w w6 := (show Below w.heap.size w _ by (repeat (first | exact Below.refl _ _ | (refine Below.drew ?_) | (refine Below.alloc ?_ (by (first | ((repeat (first | simp only [World.size_alloc] | simp only [heap_drew])); omega) | omega | (simp; omega))) _) | (refine Below.trans ?_ (Below.mono (by assumption) (by (first | ((repeat (first | simp only [World.size_alloc] | simp only [heap_drew])); omega) | omega | (simp; omega)))))))).grown hgrow6 (show Below w.heap.size w _ by (repeat (first | exact Below.refl _ _ | (refine Below.drew ?_) | (refine Below.alloc ?_ (by (first | ((repeat (first | simp only [World.size_alloc] | simp only [heap_drew])); omega) | omega | (simp; omega))) _) | (refine Below.trans ?_ (Below.mono (by assumption) (by (first | ((repeat (first | simp only [World.size_alloc] | simp only [heap_drew])); omega) | omega | (simp; omega)))))))).size (fun g hg => (World.ownsRow.lt ho3 g hg).1)))
    all_goals
     go_wp2
     go_ret
     exact ⟨_, rfl, by rw [HE.out]; exact OwnK.snoc hown6 rfl rfl, hb6⟩
   ·have d3 : decide ((m : Int) ≤ (k : Int)) = false := decide_eq_false (by omega); have d4 : decide (m ≤ k) = false := decide_eq_false (by omega); have q1 : (0 : Int) ≤ (m : Int) - k := by omega
    have q2 : (m : Int) - k ≤ 10000 := by omega
    have q3 : IntKind.i64.wrap ((m : Int) - k) = (m : Int) - k := IntWalk.i64_in _ (by omega); have I2 := ih (n - k) (by omega) (some ⟨b, o + k, none⟩) (c - k) (l.drop k) (m - k) false; rw [show ((m - k : Nat) : Int) = (m : Int) - k by omega] at I2; have I1 := hide fun W (s : Below w.heap.size w W) => (I2 W (by simp; omega) (by omega) (by omega) (by omega) (by omega) (KS.below hsh s (Nat.le_refl _))).mono (R' := fun e w' => ∃ v, e = .returned v ∧ OwnK .u64 23 w' w.heap.size v (extF (l.drop k) (m - k) false) ∧ Below W.heap.size W w' ∧ w.heap.size ≤ w'.heap.size ∧ Below w.heap.size w w') fun e w' ⟨v, he, ho, hb⟩ => ⟨v, he, ho.weak s.size, hb, Nat.le_trans s.size hb.size, s.trans (hb.mono s.size)⟩
    have H14 := extF_len (l := l.drop k) (i := m - k) (mark := false) (by simp; omega); have HE := hide (HR.out hik); clear hsh hcell h HL HR R2 ih hk hik I2 hn2
    go_enter Tryz.func148, Tryz.ntmps148
    go_upto_region 8 with (go_at_call 139; refine (HH.out _).mono ?_; rintro e w2 ⟨rfl, rfl⟩)
    go_region_held3 (fun w' => Below w.heap.size w w') ((repeat (first | exact Below.refl _ _ | (refine Below.drew ?_) | (refine Below.alloc ?_ (by (first | ((repeat (first | simp only [World.size_alloc] | simp only [heap_drew])); omega) | omega | (simp; omega))) _) | (refine Below.trans ?_ (Below.mono (by assumption) (by (first | ((repeat (first | simp only [World.size_alloc] | simp only [heap_drew])); omega) | omega | (simp; omega))))))))
     (first
      | (go_at_call 148; with_reducible refine (I1.out _ (by assumption)).mono ?_; rintro e w3 ⟨v3, rfl, ho3, hb3, hs3, hw3⟩)
      | (go_at_call 146; with_reducible refine (R1.out _ (by assumption)).mono ?_; rintro e w4 ⟨rfl, hb4⟩; have hs4 := hb4.size; (repeat (first | simp only [World.size_alloc] at hs4 | simp only [heap_drew] at hs4)))
      | (refine step_append_rd rfl _ _ 32 (by rfl) w.heap.size 23 i0 _ 1 8 Tryz.underlying32 hi hz0 hz1 hz2 rfl (by decide) _ _ _ (by rfl) (OwnK.below ho3 (by (repeat (first | exact Below.refl _ _ | (refine Below.drew ?_) | (refine Below.alloc ?_ (by (first | ((repeat (first | simp only [World.size_alloc] | simp only [heap_drew])); omega) | omega | (simp; omega))) _) | (refine Below.trans ?_ (Below.mono (by assumption) (by (first | ((repeat (first | simp only [World.size_alloc] | simp only [heap_drew])); omega) | omega | (simp; omega))))))))) _ 1 1 [.int .u64 (rootF (l.take k))] (by rfl) rfl (Rd.new_row _ _ _) (by simp [Value.oneCell']) (by simp only [maxLen]; omega) (by omega) (show Below w.heap.size w _ by (repeat (first | exact Below.refl _ _ | (refine Below.drew ?_) | (refine Below.alloc ?_ (by (first | ((repeat (first | simp only [World.size_alloc] | simp only [heap_drew])); omega) | omega | (simp; omega))) _) | (refine Below.trans ?_ (Below.mono (by assumption) (by (first | ((repeat (first | simp only [World.size_alloc] | simp only [heap_drew])); omega) | omega | (simp; omega)))))))).size ?_; intro v6 w6 hown6 hgrow6 _; have hb6 : Below w.heap.size w w6 := (show Below w.heap.size w _ by (repeat (first | exact Below.refl _ _ | (refine Below.drew ?_) | (refine Below.alloc ?_ (by (first | ((repeat (first | simp only [World.size_alloc] | simp only [heap_drew])); omega) | omega | (simp; omega))) _) | (refine Below.trans ?_ (Below.mono (by assumption) (by (first | ((repeat (first | simp only [World.size_alloc] | simp only [heap_drew])); omega) | omega | (simp; omega)))))))).grown hgrow6 (show Below w.heap.size w _ by (repeat (first | exact Below.refl _ _ | (refine Below.drew ?_) | (refine Below.alloc ?_ (by (first | ((repeat (first | simp only [World.size_alloc] | simp only [heap_drew])); omega) | omega | (simp; omega))) _) | (refine Below.trans ?_ (Below.mono (by assumption) (by (first | ((repeat (first | simp only [World.size_alloc] | simp only [heap_drew])); omega) | omega | (simp; omega)))))))).size (fun g hg => (World.ownsRow.lt ho3 g hg).1)))
    all_goals
     go_wp2
     go_ret
     exact ⟨_, rfl, by rw [HE.out]; exact OwnK.snoc hown6 rfl rfl, hb6⟩
  ·obtain rfl : m = n := by omega
   have HR := hide fun W => rroot_any m A c l W hl h1 hn hc
   rw [extF_end (by omega)]; clear ih hn2; cases mark
   ·have HK := hide h; rw [if_neg (by simp)]; clear h
    go_enter Tryz.func148, Tryz.ntmps148
    go_wp2_with (go_at_call 146; refine (HR.out _ HK.out).mono ?_; rintro e w4 ⟨rfl, hb4⟩)
    go_ret
    exact ⟨_, rfl, ⟨rfl, .inr ⟨w4.heap.size, 1, #[.int .u64 (rootF l)], rfl, hb4.size, heap_alloc_new w4 _, Nat.le_refl _, by simp [maxLen], rfl, rfl⟩⟩, hb4.trans ((Below.refl _ _).alloc hb4.size _)⟩
   ·rw [if_pos rfl]; clear h
    go_enter Tryz.func148, Tryz.ntmps148
    go_wp2
    go_ret
    exact ⟨_, rfl, OwnK.nil, Below.refl _ _⟩
theorem rExtend_anyF (A : Option Addr) (c : Nat) (l : List Int) (i : Int) (w : World) (hc : l.length ≤ c) (h : KS .u64 w A l) :
  Calls Tryz.prog 111 #[.slice A l.length c, .int .i64 i] w fun e w' => ∃ A' c', e = .returned (.tuple #[.slice A' (extS l i).1.length c', .int .i64 (extS l i).2]) ∧ (extS l i).1.length ≤ c' ∧ c' ≤ maxLen ∧ (KS .u64 w' A' (extS l i).1 ∧ FrA w A') ∧ Below w.heap.size w w' := by
 have HC := hide fun W => rcheck_any A c l W
 unfold extS
 by_cases hk : checkS l = 0
 ·obtain ⟨h1, h2⟩ := checkS_ok hk; rw [if_neg (by simpa using hk)]; rw [hk] at HC; clear hk
  by_cases hbad : i < 1 ∨ (l.length : Int) < i
  ·rw [if_pos hbad]; have hcase : decide (i < 1) = true ∨ decide (i < 1) = false ∧ decide ((l.length : Int) < i) = true := by
    simp only [decide_eq_true_eq, decide_eq_false_iff_not]; omega
   clear hbad h; rcases hcase with q1 | ⟨q1, q2⟩
   all_goals
    go_enter Tryz.func111, Tryz.ntmps111
    go_wp2_with (go_at_call 145; refine (HC.out _).mono ?_; rintro e w2 ⟨rfl, rfl⟩)
    go_ret2
    exact ⟨none, 0, rfl, Nat.le_refl _, by simp [maxLen], ⟨Rd.nil _ _, fun _ _ h => by cases h⟩, Below.refl _ _⟩
  ·rw [if_neg hbad]; obtain ⟨j, rfl⟩ : ∃ j : Nat, i = j := ⟨i.toNat, by omega⟩; have q1 : decide ((j : Int) < 1) = false := decide_eq_false (by omega); have q2 : decide ((l.length : Int) < j) = false := decide_eq_false (by omega); have q3 : decide (l.length < j) = false := decide_eq_false (by omega); have R := hide (rextend_any l.length A c l j true w rfl (by omega) (by omega) (by omega) hc h); rw [Int.toNat_natCast]; clear hbad h
   go_enter Tryz.func111, Tryz.ntmps111
   go_wp2_with (first
    | (go_at_call 145; refine (HC.out _).mono ?_; rintro e w2 ⟨rfl, rfl⟩)
    | (go_at_call 148; with_reducible refine R.out.mono ?_; rintro e w3 ⟨v3, rfl, ho3, hb3⟩; obtain ⟨A3, c3, rfl, hl3, hm3, hk3⟩ := ho3.form; have HK := hide hk3; have HF := hide ho3.fresh; clear ho3 hk3))
   go_ret2
   exact ⟨A3, c3, rfl, hl3, hm3, ⟨HK.out, HF.out⟩, hb3⟩
 ·rw [if_pos hk]; obtain ⟨x, hx⟩ : ∃ x, x = checkS l := ⟨_, rfl⟩; rw [← hx] at HC hk ⊢; have q : (x != 0) = true := by simp [hk]
  clear hk hx h
  go_enter Tryz.func111, Tryz.ntmps111
  go_wp2_with (go_at_call 145; refine (HC.out _).mono ?_; rintro e w2 ⟨rfl, rfl⟩)
  go_ret2
  exact ⟨none, 0, rfl, Nat.le_refl _, by simp [maxLen], ⟨Rd.nil _ _, fun _ _ h => by cases h⟩, Below.refl _ _⟩
def growF (a : Int) (m n : Nat) (mark : Bool) (path : List Int) : Int × Int × Bool := growJ pairF a m n mark path
theorem rgrow_any : ∀ (n m : Nat) (a : Int) (mark : Bool) (A : Option Addr) (c : Nat) (path : List Int) (w : World), n ≤ 10000 → 1 ≤ m → m ≤ n → path.length ≤ 100 → path.length ≤ c → KS .u64 w A path →
  Calls Tryz.prog 99 #[.int .u64 a, .int .i64 m, .int .i64 n, .bool mark, .slice A path.length c] w fun e w' => e = .returned (.tuple #[.int .u64 (growF a m n mark path).1, .int .u64 (growF a m n mark path).2.1, .bool (growF a m n mark path).2.2]) ∧ Below w.heap.size w w' := by
 intro n
 induction n using Nat.strongRecOn with
 | ind n ih =>
  intro m a mark A c path w hn hm1 hmn hL hc h
  by_cases hn2 : 2 ≤ n ∧ m ≠ n
  ·obtain ⟨s1, s2, s3⟩ := hf_spec hn2.1; have hne : ((m : Int) == (n : Int)) = false := by simp; omega
   rcases snoc_cases path with rfl | ⟨ps, p, rfl⟩
   ·have HE := hide (show growF a m n mark [] = (0, 0, false) from growJ_nil hn2); rw [HE.out]; clear ih h hn2
    go_enter Tryz.func99, Tryz.ntmps99
    go_wp2
    go_ret3
    exact ⟨rfl, Below.refl _ _⟩
   ·have HL := hide (@growJ_left pairF a m n mark ps p hn2); have HR := hide (@growJ_right pairF a m n mark ps p hn2); obtain ⟨b, o, rfl, hbl, hcell⟩ := h.at_ (i := ps.length) (by simp); have cp := last_cell hcell; have hp := ks_init h; have HH := hide fun W => rHalf_any n W hn2.1 hn
    have hlen : (ps ++ [p]).length = ps.length + 1 := by simp
    rw [hlen] at hL hc ⊢; obtain ⟨L, hLe⟩ : ∃ L, L = ps.length := ⟨_, rfl⟩; obtain ⟨k, hk⟩ : ∃ k, k = hf n := ⟨_, rfl⟩; rw [← hk] at HH s1 s2 s3 HL HR; rw [← hLe] at cp hL hc ⊢; have p1 : ((L : Int) + 1 == 0) = false := by simp; omega
    clear hcell hlen h
    by_cases hik : m ≤ k
    ·have d3 : decide ((m : Int) ≤ (k : Int)) = true := decide_eq_true (by omega); have d4 : decide (m ≤ k) = true := decide_eq_true (by omega); have I1 := hide (ih k s2 m a mark (some ⟨b, o, none⟩) c ps w (by omega) hm1 hik (by omega) (by omega) hp); obtain ⟨x, hx⟩ : ∃ x, x = (growF a m k mark ps).1 := ⟨_, rfl⟩; obtain ⟨y, hy⟩ : ∃ x, x = (growF a m k mark ps).2.1 := ⟨_, rfl⟩; obtain ⟨z, hz⟩ : ∃ x, x = (growF a m k mark ps).2.2 := ⟨_, rfl⟩; have HE := hide (show growF a m n mark (ps ++ [p]) = (x, pairF y p, z) by rw [hx, hy, hz]; exact HL.out hik); rw [HE.out]; rw [← hx, ← hy, ← hz, ← hLe] at I1; clear hp HL HR ih hk hik hx hy hz hLe hn2
     go_enter Tryz.func99, Tryz.ntmps99
     go_wp2_with (first
      | (go_at_call 139; refine (HH.out _).mono ?_; rintro e w2 ⟨rfl, rfl⟩)
      | (go_at_call 99; with_reducible refine I1.out.mono ?_; rintro e w3 ⟨rfl, hb3⟩)
      | (go_at_call 140; refine (rPair_any _ _ _).mono ?_; rintro e w4 ⟨rfl, hb4⟩))
     go_ret3
     exact ⟨rfl, hb3.trans (hb4.mono hb3.size)⟩
    ·have d3 : decide ((m : Int) ≤ (k : Int)) = false := decide_eq_false (by omega); have d4 : decide (m ≤ k) = false := decide_eq_false (by omega); have I1 := hide (ih (n - k) (by omega) (m - k) a false (some ⟨b, o, none⟩) c ps w (by omega) (by omega) (by omega) (by omega) (by omega) hp); obtain ⟨x, hx⟩ : ∃ x, x = (growF a (m - k) (n - k) false ps).1 := ⟨_, rfl⟩; obtain ⟨y, hy⟩ : ∃ x, x = (growF a (m - k) (n - k) false ps).2.1 := ⟨_, rfl⟩; obtain ⟨z, hz⟩ : ∃ x, x = (growF a (m - k) (n - k) false ps).2.2 := ⟨_, rfl⟩; have HE := hide (show growF a m n mark (ps ++ [p]) = (pairF p x, pairF p y, z) by rw [hx, hy, hz]; exact HR.out hik); rw [HE.out]; rw [← hx, ← hy, ← hz, ← hLe, show ((m - k : Nat) : Int) = (m : Int) - k by omega, show ((n - k : Nat) : Int) = (n : Int) - k by omega] at I1; have q1 : (0 : Int) ≤ (m : Int) - k := by omega
     have q2 : (m : Int) - k ≤ 10000 := by omega
     have q3 : (0 : Int) ≤ (n : Int) - k := by omega
     have q4 : (n : Int) - k ≤ 10000 := by omega
     clear hp HL HR ih hk hik hx hy hz hLe hn2
     go_enter Tryz.func99, Tryz.ntmps99
     go_wp2_with (first
      | (go_at_call 139; refine (HH.out _).mono ?_; rintro e w2 ⟨rfl, rfl⟩)
      | (go_at_call 99; with_reducible refine I1.out.mono ?_; rintro e w3 ⟨rfl, hb3⟩; have HB := hide hb3; clear hb3)
      | (go_at_call 140; refine (rPair_any _ _ _).mono ?_; rintro e w4 ⟨rfl, hb4⟩; have hh := HB.out.trans (hb4.mono HB.out.size); clear HB hb4; have HB := hide hh; clear hh))
     go_ret3
     exact ⟨rfl, HB.out⟩
  ·obtain rfl : m = n := by omega
   have HE := hide (show growF a m m mark path = if mark = true then (a, a, path.isEmpty) else if path.length = 1 then (path.headD 0, path.headD 0, true) else (0, 0, false) from growJ_end (by omega)); rw [HE.out]; clear ih hn2; cases mark
   ·rw [if_neg (by simp)]
    by_cases h1 : path.length = 1
    ·rw [if_pos h1]; obtain ⟨b, o, rfl, hbl, hcell⟩ := h.at_ (i := 0) (by omega); have cp := hcell 0 (by omega); rw [Nat.add_zero] at cp; obtain ⟨x, rfl⟩ : ∃ x, path = [x] := by
      cases path with
      | nil => simp at h1
      | cons x t => cases t with
       | nil => exact ⟨x, rfl⟩
       | cons y t => simp at h1
     rw [show ([x] : List Int).length = 1 from rfl]; rw [List.getElem_cons_zero] at cp; have n0 := fun y : Fut w.heap.size w => (y.cell b o hbl).trans cp
     clear hcell h h1
     go_enter Tryz.func99, Tryz.ntmps99
     go_wp2
     refine wp_region_fut w.heap.size (by kernel_rfl) (by kernel_rfl) ?_
     repeat (go_big_quiet_step ((first | fail)))
     refine wpQuiet_nil ?_; intro w4 hq'; have hb4 := Fut.of hq'; clear hq'
     go_wp2
     go_ret3
     exact ⟨rfl, hb4⟩
    ·rw [if_neg h1]; have p1 : ((path.length : Int) != 1) = true := by simp; omega
     clear h
     go_enter Tryz.func99, Tryz.ntmps99
     go_wp2
     go_ret3
     exact ⟨rfl, Below.refl _ _⟩
   ·rw [if_pos rfl]; cases path with
    | nil =>
     clear h
     go_enter Tryz.func99, Tryz.ntmps99
     go_wp2
     go_ret3
     exact ⟨rfl, Below.refl _ _⟩
    | cons p ps =>
     rw [List.length_cons]; have p1 : ((ps.length : Int) + 1 == 0) = false := by simp; omega
     clear h
     go_enter Tryz.func99, Tryz.ntmps99
     go_wp2
     go_ret3
     exact ⟨rfl, Below.refl _ _⟩
theorem growF_long {a : Int} {m n : Nat} {path : List Int} (hn : n ≤ 4096) (h : 20 < path.length) : growO pairF a m n true path = none := by
 have h1 := grow_len (pr := pairF) n a m true path; have h2 := glen_le 12 n m true (by omega); unfold growO; rw [h1, if_neg (by simp; omega)]
theorem rExtended_any (a b m n : Int) (A : Option Addr) (c : Nat) (path : List Int) (w : World) (hp : path.length ≤ 100) (hc : path.length ≤ c) (h : KS .u64 w A path) :
  Calls Tryz.prog 42 #[.int .u64 a, .int .u64 b, .int .i64 m, .int .i64 n, .slice A path.length c] w fun e w' => e = .returned (.bool (growS a b m n path)) ∧ Below w.heap.size w w' := by
 by_cases hbad : n < 1 ∨ 4096 < n ∨ m < 1 ∨ n < m
 ·have hr : growS a b m n path = false := if_pos hbad; rw [hr]; have hcase : decide (n < 1) = true ∨ decide (n < 1) = false ∧ (decide (4096 < n) = true ∨ decide (4096 < n) = false ∧ (decide (m < 1) = true ∨ decide (m < 1) = false ∧ decide (n < m) = true)) := by
   simp only [decide_eq_true_eq, decide_eq_false_iff_not]; omega
  clear hbad hr h; rcases hcase with q1 | ⟨q1, q2 | ⟨q2, q3 | ⟨q3, q4⟩⟩⟩
  all_goals
   go_enter Tryz.func42, Tryz.ntmps42
   go_wp2
   go_ret
   exact ⟨rfl, Below.refl _ _⟩
 ·obtain ⟨nn, rfl⟩ : ∃ j : Nat, n = j := ⟨n.toNat, by omega⟩; obtain ⟨mm, rfl⟩ : ∃ j : Nat, m = j := ⟨m.toNat, by omega⟩; have hr : growS a b mm nn path = decide (growO pairF a mm nn true path = some (a, b)) := by
   unfold growS; rw [if_neg hbad, Int.toNat_natCast, Int.toNat_natCast]
  rw [hr]; have q1 : decide ((nn : Int) < 1) = false := decide_eq_false (by omega); have q2 : decide (4096 < (nn : Int)) = false := decide_eq_false (by omega); have q3 : decide ((mm : Int) < 1) = false := decide_eq_false (by omega); have q4 : decide ((nn : Int) < mm) = false := decide_eq_false (by omega); have q4' : decide (nn < mm) = false := decide_eq_false (by omega)
  by_cases hlong : 20 < path.length
  ·have q5 : decide (20 < (path.length : Int)) = true := decide_eq_true (by omega); have q5' : decide (20 < path.length) = true := decide_eq_true (by omega); rw [growF_long (by omega) hlong]; clear hbad hr h
   go_enter Tryz.func42, Tryz.ntmps42
   go_wp2
   go_ret
   exact ⟨rfl, Below.refl _ _⟩
  ·have q5 : decide (20 < (path.length : Int)) = false := decide_eq_false (by omega); have q5' : decide (20 < path.length) = false := decide_eq_false (by omega); have R := hide (rgrow_any nn mm a true A c path w (by omega) (by omega) (by omega) (by omega) hc h); obtain ⟨x, hx⟩ : ∃ x, x = (growF a mm nn true path).1 := ⟨_, rfl⟩; obtain ⟨y, hy⟩ : ∃ x, x = (growF a mm nn true path).2.1 := ⟨_, rfl⟩; obtain ⟨z, hz⟩ : ∃ x, x = (growF a mm nn true path).2.2 := ⟨_, rfl⟩; rw [← hx, ← hy, ← hz] at R; have HE := hide (show decide (growO pairF a mm nn true path = some (a, b)) = (z && (x == a) && (y == b)) by
    unfold growO; rw [show growJ pairF a mm nn true path = (x, y, z) by rw [hx, hy, hz]; rfl]; cases z <;> simp; rw [Bool.eq_iff_iff]; simp)
   clear hbad hr h hx hy hz; cases z
   ·go_enter Tryz.func42, Tryz.ntmps42
    go_wp2_with (go_at_call 99; with_reducible refine R.out.mono ?_; rintro e w3 ⟨rfl, hb3⟩)
    go_ret
    exact ⟨by rw [HE.out]; rfl, hb3⟩
   ·cases q : (x == a)
    all_goals
     go_enter Tryz.func42, Tryz.ntmps42
     go_wp2_with (go_at_call 99; with_reducible refine R.out.mono ?_; rintro e w3 ⟨rfl, hb3⟩)
     go_ret
     exact ⟨by rw [HE.out, q]; simp, hb3⟩
theorem fl_u64 (l : List Int) : l.flatMap c_u64 = l.map (Value.int .u64) := by induction l with | nil => rfl | cons x l ih => rw [List.flatMap_cons, ih]; rfl
theorem fl_i64 (l : List Int) : l.flatMap c_i64 = l.map (Value.int .i64) := by induction l with | nil => rfl | cons x l ih => rw [List.flatMap_cons, ih]; rfl
theorem RowS.ks {S : Nat → Prop} {w : World} {A : Option Addr} {l : List Int} (h : RowS S w A (l.flatMap c_u64)) : KS .u64 w A l := by have := h.r; rwa [fl_u64] at this
theorem RowS.ki {S : Nat → Prop} {w : World} {A : Option Addr} {l : List Int} (h : RowS S w A (l.flatMap c_i64)) : KS .i64 w A l := by have := h.r; rwa [fl_i64] at this
theorem row_fresh {S : Nat → Prop} {w w' : World} {A : Option Addr} {l : List Int} (h : KS .u64 w' A l) (hf : FrA w A) : RowS (ext S w w') w' A (l.flatMap c_u64) := by
 rw [fl_u64]; refine ⟨h, fun hn => ?_⟩; obtain ⟨b, o, e, hb, _⟩ := h hn; exact ⟨b, o, e, .inr ⟨hf b o e, hb⟩⟩
theorem octL_len (n : Int) : (octL n).length = 8 := rfl
def okI (l : List Int) : Bool := decide (inI l ∧ l.length ≤ 100000)
def intsF (l : List Int) : Int := sumB (textL l)
def nextF (d : Int) (l : List Int) : Int := sumB (octL d ++ textL l)
def Gav : Nat → (List Int) → Option Int
 | 0, _ => none
 | _ + 1, l => whenG (okI l) (intsF l)
theorem ks_low {S0 : Nat → Prop} {w0 : World} {A : Option Addr} {l : List Int} (hS : ∀ g, S0 g → g < w0.heap.size) (h : RowS S0 w0 A (l.flatMap c_i64)) : ∀ W, Below w0.heap.size w0 W → KS .i64 W A l := fun W hW => (h.to (fun _ h => h) (Ag.below hW hS)).ki
theorem g_digest_Ints (F : Nat) (A : Option Addr) (c : Nat) (l : List Int) (S0 : Nat → Prop) (w0 : World) (hS : ∀ g, S0 g → g < w0.heap.size) (hT : Tb w0) (h : RowS S0 w0 A (l.flatMap c_i64)) (hc : l.length ≤ c) (r : Int) (hG : Gav F l = some r) :
  Calls Tryz.prog 123 #[.slice A l.length c] w0 fun e w' => e = .returned (.int .u64 r) ∧ Below w0.heap.size w0 w' := by
 cases F with
 | zero => cases hG
 | succ F =>
 obtain ⟨h1, rfl⟩ := whenG_some hG; obtain ⟨h2, h3⟩ := of_decide_eq_true h1; have hlen := textL_len h2; have T1 := hide (text_any w0.heap.size 0 (.slice none 0 0) [] l A c w0 w0 hT (Below.refl _ _) (Nat.le_refl _) (Nat.le_refl _) OwnK.nil (by simp) (ks_low hS h) h2 h3); have HS := hide fun A c l W hn s => sum_any A c l W hn s
 clear hG h1 h hS hT
 go_enter Tryz.func123, Tryz.ntmps123
 go_wp2_with (first
  | (go_at_call 155; refine T1.out.mono ?_; rintro e w3 ⟨v3, rfl, ho3, hb3⟩; obtain ⟨A3, c3, rfl, hl3, hm3, hk3⟩ := ho3.form; have B3 := hide hb3; have K3 := hide hk3; clear ho3 hb3 hk3)
  | (go_at_call 134; refine (HS.out A3 c3 _ _ (by simp; omega) K3.out).mono ?_; rintro e w4 ⟨rfl, rfl⟩))
 go_ret
 exact ⟨rfl, B3.out⟩
def Gbw : Nat → Int → (List Int) → Option Int
 | 0, _, _ => none
 | _ + 1, d, l => whenG (decide (inI l ∧ l.length ≤ 10000 ∧ 1 ≤ l.length)) (nextF d l)
theorem g_digest_Next (F : Nat) (n : Int) (A : Option Addr) (c : Nat) (l : List Int) (S0 : Nat → Prop) (w0 : World) (hS : ∀ g, S0 g → g < w0.heap.size) (hT : Tb w0) (h : RowS S0 w0 A (l.flatMap c_i64)) (hc : l.length ≤ c) (r : Int) (hG : Gbw F n l = some r) :
  Calls Tryz.prog 151 #[.int .u64 n, .slice A l.length c] w0 fun e w' => e = .returned (.int .u64 r) ∧ Below w0.heap.size w0 w' := by
 cases F with
 | zero => cases hG
 | succ F =>
 obtain ⟨h1, rfl⟩ := whenG_some hG; obtain ⟨h2, h3, h4⟩ := of_decide_eq_true h1; have hlen := textL_len h2; obtain ⟨L, hL⟩ : ∃ L, L = octL n ++ textL l := ⟨_, rfl⟩; have hLl : L.length ≤ 9223372036854775807 := by rw [hL, List.length_append, octL_len]; omega
 have hR : nextF n l = sumB L := by rw [hL]; rfl
 rw [hR]; have T1 : Hid (∀ (W w : World), Below w0.heap.size w0 W → Below W.heap.size W w → ∀ A', KS .u8 w A' (octL n) → Calls Tryz.prog 155 #[.slice A' 8 8, .slice A l.length c] w fun e w' => ∃ v', e = .returned v' ∧ OwnK .u8 5 w' w.heap.size v' L ∧ Below w.heap.size w w') := by
  refine hide fun W w hW hb A' hk => ?_
  rw [hL]; exact text_f A' 8 (octL n) l A c w0 w hT (hW.trans (hb.mono hW.size)) (by simp [octL]) (by omega) hk (fun W' hW' => ks_low hS h W' ((hW.trans (hb.mono hW.size)).trans (hW'.mono (Nat.le_trans hW.size hb.size)))) h2 h3 h4
 have HS := hide fun A c W s => sum_any A c L W hLl s
 clear hG h1 h hS hT hlen h2 hL hLl hR h3 h4
 go_enter Tryz.func151, Tryz.ntmps151
 go_wp2_with (first
  | (go_at_call 133; refine (octets_any n _).mono ?_; rintro e w2 ⟨rfl, hb2⟩; have hs2 := hb2.size; have H2 := hide hb2; have B2 := hide (hb2.alloc hs2 (.cells (octRow n 8) 181)); have K2 := hide (ks_oct (Blk.new w2 181 (octRow n 8))); have I2 := hide ((Below.refl w2.heap.size w2).alloc (Nat.le_refl _) (.cells (octRow n 8) 181)); clear hb2; simp only [octRow, Nat.reduceLT, if_true] at B2 K2 I2 ⊢)
  | (go_at_call 155; with_reducible refine (T1.out w2 _ H2.out I2.out _ K2.out).mono ?_; rintro e w3 ⟨v3, rfl, ho3, hb3⟩; obtain ⟨A3, c3, rfl, hl3, hm3, hk3⟩ := ho3.form; have B3 := hide (B2.out.trans (hb3.mono B2.out.size)); have K3 := hide hk3; clear ho3 hb3 hk3)
  | (go_at_call 134; with_reducible refine (HS.out A3 c3 _ K3.out).mono ?_; rintro e w4 ⟨rfl, rfl⟩))
 go_ret
 exact ⟨rfl, B3.out⟩
end Go.Proofs.YtggaodokkcoagaaGreatDoor
namespace Go.Proofs.YtggaodokkcoagaaGreatDoor
open Go.RowKit Go.Maps
def Gai : Nat → Int → Option ((List UInt8))
 | 0, _ => none
 | F + 1, p_0 =>
 ifB (decide (p_0 < 0))
  (ifB (((IntKind.i64.wrap (Int.tdiv p_0 10)) == 0))
   (Option.bind (apS ([45] : List UInt8) ([UInt8.ofNat (Int.toNat (IntKind.u8.wrap (IntKind.i64.wrap (48 - p_0))))] : List UInt8)) (fun v_4 =>
   some v_4))
   (Option.bind (Option.bind (Gai F (IntKind.i64.wrap (Int.tdiv p_0 10))) (fun v_6 =>
    Option.bind (apS v_6 ([UInt8.ofNat (Int.toNat (IntKind.u8.wrap (IntKind.i64.wrap (48 - (Int.tmod p_0 10)))))] : List UInt8)) (fun v_8 =>
    some v_8)) : Option ((List UInt8))) (fun (v_19 : (List UInt8)) =>
    some v_19)))
  (ifB (decide (p_0 < 10))
   (some ([UInt8.ofNat (Int.toNat (IntKind.u8.wrap (IntKind.i64.wrap (48 + p_0))))] : List UInt8))
   (Option.bind (Option.bind (Gai F (IntKind.i64.wrap (Int.tdiv p_0 10))) (fun v_25 =>
    Option.bind (apS v_25 ([UInt8.ofNat (Int.toNat (IntKind.u8.wrap (IntKind.i64.wrap (48 + (Int.tmod p_0 10)))))] : List UInt8)) (fun v_27 =>
    some v_27)) : Option ((List UInt8))) (fun (v_38 : (List UInt8)) =>
    some v_38)))
theorem g_regulatorref03_Decimal : ∀ (F : Nat) (p_0 : Int) (S0 : Nat → Prop) (w0 : World) (hS : ∀ g, S0 g → g < w0.heap.size) (hT : Tb w0)  (r : (List UInt8)) (hG : Gai F p_0 = some r),
  Calls Tryz.prog 156 #[.int .i64 p_0] w0 fun e w' => e = .returned (.string ⟨List.toArray r⟩) ∧ Below w0.heap.size w0 w' := by
 intro F
 induction F with
 | zero => intros; rename_i hG; cases hG
 | succ F ih =>
 intro p_0 S0 w0 hS hT  r hG; refine vc_enter (n := 41) Tryz.func156 rfl rfl rfl (fun a hK => ?_); replace hK := hK.weak (K' := [(0, .int .i64 p_0)]) ⟨rfl, trivial⟩; have hE := Es.start hS; unfold Gai at hG; refine wp_seq ?_; refine wp_region_lit ?_; refine o0 2 (.string ⟨List.toArray ([] : List UInt8)⟩) hK rfl (fun _ => by kernel_rfl) rfl rfl rfl ?_; clear hK a; intro a hK; refine wpList_nil ?_; refine xt_norm ?_; refine wp_seq ?_; refine wp_seq ?_; refine wp_region_lit ?_; refine o0 3 (.int .i64 p_0) hK rfl (fun _ => by kernel_rfl) rfl rfl rfl ?_; clear hK a; intro a hK; refine o0 4 (.bool (decide (p_0 < 0))) hK rfl (fun _ => by kernel_rfl) rfl rfl rfl ?_; clear hK a; intro a hK; refine wpList_nil ?_; refine xt_norm ?_; rcases ifB_cases hG with ⟨h_1, hG⟩ | ⟨h_1, hG⟩
 ·replace hK := hK.sub (d := 4) (v' := .bool true) rfl (congrArg Value.bool h_1); refine vc_cond (t := true) hK (fun _ => rfl) ?_; rw [if_pos rfl]; refine wp_seq ?_; refine wp_seq ?_; refine wp_region_lit ?_; refine o0 5 (.int .i64 p_0) hK rfl (fun _ => by kernel_rfl) rfl rfl rfl ?_; clear hK a; intro a hK; refine st_run (d := 6) (v' := .int .i64 (IntKind.i64.wrap (Int.tdiv p_0 10))) hK rfl (ex_int rfl (fun _ => rfl) (fun _ => rfl) (by kernel_rfl) (fun W => run_quo (by decide) W)) rfl rfl rfl ?_; clear hK a; intro a hK; refine o0 7 (.bool ((IntKind.i64.wrap (Int.tdiv p_0 10)) == 0)) hK rfl (fun _ => by kernel_rfl) rfl rfl rfl ?_; clear hK a; intro a hK; refine wpList_nil ?_; refine xt_norm ?_; rcases ifB_cases hG with ⟨h_2, hG⟩ | ⟨h_2, hG⟩
  ·replace hK := hK.sub (d := 7) (v' := .bool true) rfl (congrArg Value.bool h_2); refine vc_cond (t := true) hK (fun _ => rfl) ?_; rw [if_pos rfl]; refine wp_seq ?_; obtain ⟨v_4, hy_4, hG⟩ := bind_some hG; refine wp_region_lit ?_; refine o0 8 (.int .i64 p_0) hK rfl (fun _ => by kernel_rfl) rfl rfl rfl ?_; clear hK a; intro a hK; refine oN 2 (fun K => (10, .int .u8 (IntKind.u8.wrap (IntKind.i64.wrap (48 - p_0)))) :: (9, .int .i64 (IntKind.i64.wrap (48 - p_0))) :: K) hK (fun _ => by kernel_rfl) ?_; clear hK a; intro a hK; refine sq_new (d := 11) (v := fun g => .slice (some ⟨g, 0, none⟩) 1 1) (cs := #[.int .u8 (IntKind.u8.wrap (IntKind.i64.wrap (48 - p_0)))]) (t := 5) hK hE rfl (fun _ _ => by kernel_rfl) rfl rfl ?_; clear hK hE a; intro a g_3 w_5 hK hE; refine st_op (d := 12) (v' := .string ⟨List.toArray ([UInt8.ofNat (Int.toNat (IntKind.u8.wrap (IntKind.i64.wrap (48 - p_0))))] : List UInt8)⟩) (vs := [.int .u8 (IntKind.u8.wrap (IntKind.i64.wrap (48 - p_0)))]) (obs := [(⟨g_3, 0, none⟩, .int .u8 (IntKind.u8.wrap (IntKind.i64.wrap (48 - p_0))))]) hK rfl (fun _ => by kernel_rfl) ⟨((hE.blk 0 rfl).cell 0).trans rfl, trivial⟩ rfl rfl rfl ?_; clear hK a; intro a hK; refine st_run (d := 13) (v' := .string ⟨List.toArray v_4⟩) hK rfl (ex_eq rfl (fun _ => rfl) (fun _ => rfl) (by kernel_rfl) (fun W => run_str_add hy_4 W)) rfl rfl rfl ?_; clear hK a; intro a hK; refine o0 2 (.string ⟨List.toArray v_4⟩) hK rfl (fun _ => by kernel_rfl) rfl rfl rfl ?_; clear hK a; intro a hK; refine wpList_nil ?_; refine xt_norm ?_; refine wp_ret ?_; refine xt_ret ?_; refine xt_ret ?_; refine vc_ret (v' := .string ⟨List.toArray v_4⟩) (vs := []) (obs := []) hK (fun _ => by kernel_rfl) trivial rfl ?_; obtain rfl := Option.some.inj hG; exact ⟨rfl, hE.b⟩
  ·replace hK := hK.sub (d := 7) (v' := .bool false) rfl (congrArg Value.bool h_2); refine vc_cond (t := false) hK (fun _ => rfl) ?_; rw [if_neg (by simp)]; refine wp_skip ?_; refine xt_norm ?_; obtain ⟨o_18, hA_18, hG_18⟩ := bind_some hG; replace hG := hA_18; clear hA_18; refine seq_join1 (fun a w_ => ∃ (v_19 : List UInt8), ∃ S_, Kn 41 [(2, .string ⟨List.toArray v_19⟩)] a ∧ Es S0 w0 w_ S_ [] ∧ v_19 = o_18) ?_ ?_
   ·obtain ⟨v_6, hy_6, hG⟩ := bind_some hG; obtain ⟨v_8, hy_8, hG⟩ := bind_some hG; replace hE := hE.drew; refine rh_begin (S0 := S0) (w0 := w0) [] rfl ?_; generalize w0.drew = w_9 at hE ⊢; refine rh_take (i := 0) (d := 14) (v' := .int .i64 p_0) (vs := []) (obs := []) #[true, false, false, false, false, false, false, false, false, false, false] (by kernel_rfl) hK ⟨_, hE.sel [] rfl rfl⟩ rfl (by kernel_rfl) (by kernel_rfl) (by kernel_rfl) (by kernel_rfl) (fun _ _ _ h => h) (fun _ => by kernel_rfl) (fun _ _ _ => trivial) rfl rfl rfl ?_; clear hK a; intro a hK; refine rh_run (i := 1) (d := 15) (v' := .int .i64 (IntKind.i64.wrap (Int.tdiv p_0 10))) #[true, true, false, false, false, false, false, false, false, false, false] (by kernel_rfl) hK ⟨_, hE.sel [] rfl rfl⟩ rfl (by kernel_rfl) (by kernel_rfl) (by kernel_rfl) (by kernel_rfl) (fun _ _ _ h => h) (ex_int rfl (fun _ => rfl) (fun _ => rfl) (by kernel_rfl) (fun W => run_quo (by decide) W)) rfl rfl rfl ?_; clear hK a; intro a hK; refine rh_take (i := 3) (d := 17) (v' := .int .i64 p_0) (vs := []) (obs := []) #[true, true, false, true, false, false, false, false, false, false, false] (by kernel_rfl) hK ⟨_, hE.sel [] rfl rfl⟩ rfl (by kernel_rfl) (by kernel_rfl) (by kernel_rfl) (by kernel_rfl) (fun _ _ _ h => h) (fun _ => by kernel_rfl) (fun _ _ _ => trivial) rfl rfl rfl ?_; clear hK a; intro a hK; refine rh_run (i := 4) (d := 18) (v' := .int .i64 (Int.tmod p_0 10)) #[true, true, false, true, true, false, false, false, false, false, false] (by kernel_rfl) hK ⟨_, hE.sel [] rfl rfl⟩ rfl (by kernel_rfl) (by kernel_rfl) (by kernel_rfl) (by kernel_rfl) (fun _ _ _ h => h) (ex_int rfl (fun _ => rfl) (fun _ => rfl) (by kernel_rfl) (fun W => run_rem (by decide) W)) rfl rfl rfl ?_; clear hK a; intro a hK; refine rh_take (i := 5) (d := 19) (v' := .int .i64 (IntKind.i64.wrap (48 - (Int.tmod p_0 10)))) (vs := []) (obs := []) #[true, true, false, true, true, true, false, false, false, false, false] (by kernel_rfl) hK ⟨_, hE.sel [] rfl rfl⟩ rfl (by kernel_rfl) (by kernel_rfl) (by kernel_rfl) (by kernel_rfl) (fun _ _ _ h => h) (fun _ => by kernel_rfl) (fun _ _ _ => trivial) rfl rfl rfl ?_; clear hK a; intro a hK; refine rh_take (i := 6) (d := 20) (v' := .int .u8 (IntKind.u8.wrap (IntKind.i64.wrap (48 - (Int.tmod p_0 10))))) (vs := []) (obs := []) #[true, true, false, true, true, true, true, false, false, false, false] (by kernel_rfl) hK ⟨_, hE.sel [] rfl rfl⟩ rfl (by kernel_rfl) (by kernel_rfl) (by kernel_rfl) (by kernel_rfl) (fun _ _ _ h => h) (fun _ => by kernel_rfl) (fun _ _ _ => trivial) rfl rfl rfl ?_; clear hK a; intro a hK; refine rh_all [2, 7] (by kernel_rfl) (by simp) ⟨?_, ?_, trivial⟩
    ·refine rh_call (d := 16) (f := 156) (args := #[.int .i64 (IntKind.i64.wrap (Int.tdiv p_0 10))]) rfl hK rfl (fun _ => by kernel_rfl) rfl rfl (ih (IntKind.i64.wrap (Int.tdiv p_0 10)) (fun g => g < _) _ (fun _ h => h) (hT.to hE.b)  _ hy_6) ?_; rintro e w_10 ⟨rfl, hb⟩; replace hE := hE.call hb; obtain ⟨S_11, hE⟩ : ∃ S, Es _ _ _ S _ := ⟨_, hE⟩; clear hb; refine ⟨_, rfl, ⟨_, hE.sel [] rfl rfl⟩, ?_⟩; clear hK a; intro a hK; refine rh_all [7] (by kernel_rfl) (by simp) ⟨?_, trivial⟩; refine rh_new (d := 21) (v := fun g => .slice (some ⟨g, 0, none⟩) 1 1) (cs := #[.int .u8 (IntKind.u8.wrap (IntKind.i64.wrap (48 - (Int.tmod p_0 10))))]) (t := 5) rfl hK hE rfl (fun _ _ => by kernel_rfl) rfl rfl ?_; clear hK hE a; intro a g_7 w_12 hK hE; refine ⟨⟨_, hE.sel [] rfl rfl⟩, ?_⟩; refine rh_all [8] (by kernel_rfl) (by simp) ⟨?_, trivial⟩; refine rh_op (d := 22) (v' := .string ⟨List.toArray ([UInt8.ofNat (Int.toNat (IntKind.u8.wrap (IntKind.i64.wrap (48 - (Int.tmod p_0 10)))))] : List UInt8)⟩) (vs := [.int .u8 (IntKind.u8.wrap (IntKind.i64.wrap (48 - (Int.tmod p_0 10))))]) (obs := [(⟨g_7, 0, none⟩, .int .u8 (IntKind.u8.wrap (IntKind.i64.wrap (48 - (Int.tmod p_0 10)))))]) rfl hK ⟨_, hE.sel [] rfl rfl⟩ rfl (fun _ => by kernel_rfl) ⟨((hE.blk 0 rfl).cell 0).trans rfl, trivial⟩ rfl rfl rfl ?_; clear hK a; intro a hK; refine rh_run (i := 9) (d := 23) (v' := .string ⟨List.toArray v_8⟩) #[true, true, true, true, true, true, true, true, true, true, false] (by kernel_rfl) hK ⟨_, hE.sel [] rfl rfl⟩ rfl (by kernel_rfl) (by kernel_rfl) (by kernel_rfl) (by kernel_rfl) (fun _ _ _ h => h) (ex_eq rfl (fun _ => rfl) (fun _ => rfl) (by kernel_rfl) (fun W => run_str_add hy_8 W)) rfl rfl rfl ?_; clear hK a; intro a hK; refine rh_take (i := 10) (d := 2) (v' := .string ⟨List.toArray v_8⟩) (vs := []) (obs := []) #[true, true, true, true, true, true, true, true, true, true, true] (by kernel_rfl) hK ⟨_, hE.sel [] rfl rfl⟩ rfl (by kernel_rfl) (by kernel_rfl) (by kernel_rfl) (by kernel_rfl) (fun _ _ _ h => h) (fun _ => by kernel_rfl) (fun _ _ _ => trivial) rfl rfl rfl ?_; clear hK a; intro a hK; refine wpAnyH_done (by kernel_rfl) ?_ _; refine xt_norm ?_; exact ⟨v_8, _, hK.weak ⟨rfl, trivial⟩, hE.sel [] rfl rfl, Option.some.inj hG⟩
    ·refine rh_new (d := 21) (v := fun g => .slice (some ⟨g, 0, none⟩) 1 1) (cs := #[.int .u8 (IntKind.u8.wrap (IntKind.i64.wrap (48 - (Int.tmod p_0 10))))]) (t := 5) rfl hK hE rfl (fun _ _ => by kernel_rfl) rfl rfl ?_; clear hK hE a; intro a g_7 w_13 hK hE; refine ⟨⟨_, hE.sel [] rfl rfl⟩, ?_⟩; refine rh_all [2, 8] (by kernel_rfl) (by simp) ⟨?_, ?_, trivial⟩
     ·refine rh_call (d := 16) (f := 156) (args := #[.int .i64 (IntKind.i64.wrap (Int.tdiv p_0 10))]) rfl hK rfl (fun _ => by kernel_rfl) rfl rfl (ih (IntKind.i64.wrap (Int.tdiv p_0 10)) (fun g => g < _) _ (fun _ h => h) (hT.to hE.b)  _ hy_6) ?_; rintro e w_14 ⟨rfl, hb⟩; replace hE := hE.call hb; obtain ⟨S_15, hE⟩ : ∃ S, Es _ _ _ S _ := ⟨_, hE⟩; clear hb; refine ⟨_, rfl, ⟨_, hE.sel [] rfl rfl⟩, ?_⟩; clear hK a; intro a hK; refine rh_all [8] (by kernel_rfl) (by simp) ⟨?_, trivial⟩; refine rh_op (d := 22) (v' := .string ⟨List.toArray ([UInt8.ofNat (Int.toNat (IntKind.u8.wrap (IntKind.i64.wrap (48 - (Int.tmod p_0 10)))))] : List UInt8)⟩) (vs := [.int .u8 (IntKind.u8.wrap (IntKind.i64.wrap (48 - (Int.tmod p_0 10))))]) (obs := [(⟨g_7, 0, none⟩, .int .u8 (IntKind.u8.wrap (IntKind.i64.wrap (48 - (Int.tmod p_0 10)))))]) rfl hK ⟨_, hE.sel [] rfl rfl⟩ rfl (fun _ => by kernel_rfl) ⟨((hE.blk 0 rfl).cell 0).trans rfl, trivial⟩ rfl rfl rfl ?_; clear hK a; intro a hK; refine rh_run (i := 9) (d := 23) (v' := .string ⟨List.toArray v_8⟩) #[true, true, true, true, true, true, true, true, true, true, false] (by kernel_rfl) hK ⟨_, hE.sel [] rfl rfl⟩ rfl (by kernel_rfl) (by kernel_rfl) (by kernel_rfl) (by kernel_rfl) (fun _ _ _ h => h) (ex_eq rfl (fun _ => rfl) (fun _ => rfl) (by kernel_rfl) (fun W => run_str_add hy_8 W)) rfl rfl rfl ?_; clear hK a; intro a hK; refine rh_take (i := 10) (d := 2) (v' := .string ⟨List.toArray v_8⟩) (vs := []) (obs := []) #[true, true, true, true, true, true, true, true, true, true, true] (by kernel_rfl) hK ⟨_, hE.sel [] rfl rfl⟩ rfl (by kernel_rfl) (by kernel_rfl) (by kernel_rfl) (by kernel_rfl) (fun _ _ _ h => h) (fun _ => by kernel_rfl) (fun _ _ _ => trivial) rfl rfl rfl ?_; clear hK a; intro a hK; refine wpAnyH_done (by kernel_rfl) ?_ _; refine xt_norm ?_; exact ⟨v_8, _, hK.weak ⟨rfl, trivial⟩, hE.sel [] rfl rfl, Option.some.inj hG⟩
     ·refine rh_op (d := 22) (v' := .string ⟨List.toArray ([UInt8.ofNat (Int.toNat (IntKind.u8.wrap (IntKind.i64.wrap (48 - (Int.tmod p_0 10)))))] : List UInt8)⟩) (vs := [.int .u8 (IntKind.u8.wrap (IntKind.i64.wrap (48 - (Int.tmod p_0 10))))]) (obs := [(⟨g_7, 0, none⟩, .int .u8 (IntKind.u8.wrap (IntKind.i64.wrap (48 - (Int.tmod p_0 10)))))]) rfl hK ⟨_, hE.sel [] rfl rfl⟩ rfl (fun _ => by kernel_rfl) ⟨((hE.blk 0 rfl).cell 0).trans rfl, trivial⟩ rfl rfl rfl ?_; clear hK a; intro a hK; refine rh_all [2] (by kernel_rfl) (by simp) ⟨?_, trivial⟩; refine rh_call (d := 16) (f := 156) (args := #[.int .i64 (IntKind.i64.wrap (Int.tdiv p_0 10))]) rfl hK rfl (fun _ => by kernel_rfl) rfl rfl (ih (IntKind.i64.wrap (Int.tdiv p_0 10)) (fun g => g < _) _ (fun _ h => h) (hT.to hE.b)  _ hy_6) ?_; rintro e w_16 ⟨rfl, hb⟩; replace hE := hE.call hb; obtain ⟨S_17, hE⟩ : ∃ S, Es _ _ _ S _ := ⟨_, hE⟩; clear hb; refine ⟨_, rfl, ⟨_, hE.sel [] rfl rfl⟩, ?_⟩; clear hK a; intro a hK; refine rh_run (i := 9) (d := 23) (v' := .string ⟨List.toArray v_8⟩) #[true, true, true, true, true, true, true, true, true, true, false] (by kernel_rfl) hK ⟨_, hE.sel [] rfl rfl⟩ rfl (by kernel_rfl) (by kernel_rfl) (by kernel_rfl) (by kernel_rfl) (fun _ _ _ h => h) (ex_eq rfl (fun _ => rfl) (fun _ => rfl) (by kernel_rfl) (fun W => run_str_add hy_8 W)) rfl rfl rfl ?_; clear hK a; intro a hK; refine rh_take (i := 10) (d := 2) (v' := .string ⟨List.toArray v_8⟩) (vs := []) (obs := []) #[true, true, true, true, true, true, true, true, true, true, true] (by kernel_rfl) hK ⟨_, hE.sel [] rfl rfl⟩ rfl (by kernel_rfl) (by kernel_rfl) (by kernel_rfl) (by kernel_rfl) (fun _ _ _ h => h) (fun _ => by kernel_rfl) (fun _ _ _ => trivial) rfl rfl rfl ?_; clear hK a; intro a hK; refine wpAnyH_done (by kernel_rfl) ?_ _; refine xt_norm ?_; exact ⟨v_8, _, hK.weak ⟨rfl, trivial⟩, hE.sel [] rfl rfl, Option.some.inj hG⟩
   ·clear hK hE a; rintro a w_20 ⟨v_19, S_21, hK, hE, ho_⟩; subst ho_; replace hG := hG_18; clear hG_18; refine wp_ret ?_; refine xt_ret ?_; refine vc_ret (v' := .string ⟨List.toArray v_19⟩) (vs := []) (obs := []) hK (fun _ => by kernel_rfl) trivial rfl ?_; obtain rfl := Option.some.inj hG; exact ⟨rfl, hE.b⟩
 ·replace hK := hK.sub (d := 4) (v' := .bool false) rfl (congrArg Value.bool h_1); refine vc_cond (t := false) hK (fun _ => rfl) ?_; rw [if_neg (by simp)]; refine wp_skip ?_; refine xt_norm ?_; refine wp_seq ?_; refine wp_seq ?_; refine wp_region_lit ?_; refine o0 24 (.int .i64 p_0) hK rfl (fun _ => by kernel_rfl) rfl rfl rfl ?_; clear hK a; intro a hK; refine o0 25 (.bool (decide (p_0 < 10))) hK rfl (fun _ => by kernel_rfl) rfl rfl rfl ?_; clear hK a; intro a hK; refine wpList_nil ?_; refine xt_norm ?_; rcases ifB_cases hG with ⟨h_22, hG⟩ | ⟨h_22, hG⟩
  ·replace hK := hK.sub (d := 25) (v' := .bool true) rfl (congrArg Value.bool h_22); refine vc_cond (t := true) hK (fun _ => rfl) ?_; rw [if_pos rfl]; refine wp_seq ?_; refine wp_region_lit ?_; refine o0 26 (.int .i64 p_0) hK rfl (fun _ => by kernel_rfl) rfl rfl rfl ?_; clear hK a; intro a hK; refine oN 2 (fun K => (28, .int .u8 (IntKind.u8.wrap (IntKind.i64.wrap (48 + p_0)))) :: (27, .int .i64 (IntKind.i64.wrap (48 + p_0))) :: K) hK (fun _ => by kernel_rfl) ?_; clear hK a; intro a hK; refine sq_new (d := 29) (v := fun g => .slice (some ⟨g, 0, none⟩) 1 1) (cs := #[.int .u8 (IntKind.u8.wrap (IntKind.i64.wrap (48 + p_0)))]) (t := 5) hK hE rfl (fun _ _ => by kernel_rfl) rfl rfl ?_; clear hK hE a; intro a g_23 w_24 hK hE; refine st_op (d := 30) (v' := .string ⟨List.toArray ([UInt8.ofNat (Int.toNat (IntKind.u8.wrap (IntKind.i64.wrap (48 + p_0))))] : List UInt8)⟩) (vs := [.int .u8 (IntKind.u8.wrap (IntKind.i64.wrap (48 + p_0)))]) (obs := [(⟨g_23, 0, none⟩, .int .u8 (IntKind.u8.wrap (IntKind.i64.wrap (48 + p_0))))]) hK rfl (fun _ => by kernel_rfl) ⟨((hE.blk 0 rfl).cell 0).trans rfl, trivial⟩ rfl rfl rfl ?_; clear hK a; intro a hK; refine st_op (d := 2) (v' := .string ⟨List.toArray ([UInt8.ofNat (Int.toNat (IntKind.u8.wrap (IntKind.i64.wrap (48 + p_0))))] : List UInt8)⟩) (vs := []) (obs := []) hK rfl (fun _ => by kernel_rfl) trivial rfl rfl rfl ?_; clear hK a; intro a hK; refine wpList_nil ?_; refine xt_norm ?_; refine wp_ret ?_; refine xt_ret ?_; refine vc_ret (v' := .string ⟨List.toArray ([UInt8.ofNat (Int.toNat (IntKind.u8.wrap (IntKind.i64.wrap (48 + p_0))))] : List UInt8)⟩) (vs := []) (obs := []) hK (fun _ => by kernel_rfl) trivial rfl ?_; obtain rfl := Option.some.inj hG; exact ⟨rfl, hE.b⟩
  ·replace hK := hK.sub (d := 25) (v' := .bool false) rfl (congrArg Value.bool h_22); refine vc_cond (t := false) hK (fun _ => rfl) ?_; rw [if_neg (by simp)]; refine wp_skip ?_; refine xt_norm ?_; obtain ⟨o_37, hA_37, hG_37⟩ := bind_some hG; replace hG := hA_37; clear hA_37; refine seq_join1 (fun a w_ => ∃ (v_38 : List UInt8), ∃ S_, Kn 41 [(2, .string ⟨List.toArray v_38⟩)] a ∧ Es S0 w0 w_ S_ [] ∧ v_38 = o_37) ?_ ?_
   ·obtain ⟨v_25, hy_25, hG⟩ := bind_some hG; obtain ⟨v_27, hy_27, hG⟩ := bind_some hG; replace hE := hE.drew; refine rh_begin (S0 := S0) (w0 := w0) [] rfl ?_; generalize w0.drew = w_28 at hE ⊢; refine rh_take (i := 0) (d := 31) (v' := .int .i64 p_0) (vs := []) (obs := []) #[true, false, false, false, false, false, false, false, false, false, false] (by kernel_rfl) hK ⟨_, hE.sel [] rfl rfl⟩ rfl (by kernel_rfl) (by kernel_rfl) (by kernel_rfl) (by kernel_rfl) (fun _ _ _ h => h) (fun _ => by kernel_rfl) (fun _ _ _ => trivial) rfl rfl rfl ?_; clear hK a; intro a hK; refine rh_run (i := 1) (d := 32) (v' := .int .i64 (IntKind.i64.wrap (Int.tdiv p_0 10))) #[true, true, false, false, false, false, false, false, false, false, false] (by kernel_rfl) hK ⟨_, hE.sel [] rfl rfl⟩ rfl (by kernel_rfl) (by kernel_rfl) (by kernel_rfl) (by kernel_rfl) (fun _ _ _ h => h) (ex_int rfl (fun _ => rfl) (fun _ => rfl) (by kernel_rfl) (fun W => run_quo (by decide) W)) rfl rfl rfl ?_; clear hK a; intro a hK; refine rh_take (i := 3) (d := 34) (v' := .int .i64 p_0) (vs := []) (obs := []) #[true, true, false, true, false, false, false, false, false, false, false] (by kernel_rfl) hK ⟨_, hE.sel [] rfl rfl⟩ rfl (by kernel_rfl) (by kernel_rfl) (by kernel_rfl) (by kernel_rfl) (fun _ _ _ h => h) (fun _ => by kernel_rfl) (fun _ _ _ => trivial) rfl rfl rfl ?_; clear hK a; intro a hK; refine rh_run (i := 4) (d := 35) (v' := .int .i64 (Int.tmod p_0 10)) #[true, true, false, true, true, false, false, false, false, false, false] (by kernel_rfl) hK ⟨_, hE.sel [] rfl rfl⟩ rfl (by kernel_rfl) (by kernel_rfl) (by kernel_rfl) (by kernel_rfl) (fun _ _ _ h => h) (ex_int rfl (fun _ => rfl) (fun _ => rfl) (by kernel_rfl) (fun W => run_rem (by decide) W)) rfl rfl rfl ?_; clear hK a; intro a hK; refine rh_take (i := 5) (d := 36) (v' := .int .i64 (IntKind.i64.wrap (48 + (Int.tmod p_0 10)))) (vs := []) (obs := []) #[true, true, false, true, true, true, false, false, false, false, false] (by kernel_rfl) hK ⟨_, hE.sel [] rfl rfl⟩ rfl (by kernel_rfl) (by kernel_rfl) (by kernel_rfl) (by kernel_rfl) (fun _ _ _ h => h) (fun _ => by kernel_rfl) (fun _ _ _ => trivial) rfl rfl rfl ?_; clear hK a; intro a hK; refine rh_take (i := 6) (d := 37) (v' := .int .u8 (IntKind.u8.wrap (IntKind.i64.wrap (48 + (Int.tmod p_0 10))))) (vs := []) (obs := []) #[true, true, false, true, true, true, true, false, false, false, false] (by kernel_rfl) hK ⟨_, hE.sel [] rfl rfl⟩ rfl (by kernel_rfl) (by kernel_rfl) (by kernel_rfl) (by kernel_rfl) (fun _ _ _ h => h) (fun _ => by kernel_rfl) (fun _ _ _ => trivial) rfl rfl rfl ?_; clear hK a; intro a hK; refine rh_all [2, 7] (by kernel_rfl) (by simp) ⟨?_, ?_, trivial⟩
    ·refine rh_call (d := 33) (f := 156) (args := #[.int .i64 (IntKind.i64.wrap (Int.tdiv p_0 10))]) rfl hK rfl (fun _ => by kernel_rfl) rfl rfl (ih (IntKind.i64.wrap (Int.tdiv p_0 10)) (fun g => g < _) _ (fun _ h => h) (hT.to hE.b)  _ hy_25) ?_; rintro e w_29 ⟨rfl, hb⟩; replace hE := hE.call hb; obtain ⟨S_30, hE⟩ : ∃ S, Es _ _ _ S _ := ⟨_, hE⟩; clear hb; refine ⟨_, rfl, ⟨_, hE.sel [] rfl rfl⟩, ?_⟩; clear hK a; intro a hK; refine rh_all [7] (by kernel_rfl) (by simp) ⟨?_, trivial⟩; refine rh_new (d := 38) (v := fun g => .slice (some ⟨g, 0, none⟩) 1 1) (cs := #[.int .u8 (IntKind.u8.wrap (IntKind.i64.wrap (48 + (Int.tmod p_0 10))))]) (t := 5) rfl hK hE rfl (fun _ _ => by kernel_rfl) rfl rfl ?_; clear hK hE a; intro a g_26 w_31 hK hE; refine ⟨⟨_, hE.sel [] rfl rfl⟩, ?_⟩; refine rh_all [8] (by kernel_rfl) (by simp) ⟨?_, trivial⟩; refine rh_op (d := 39) (v' := .string ⟨List.toArray ([UInt8.ofNat (Int.toNat (IntKind.u8.wrap (IntKind.i64.wrap (48 + (Int.tmod p_0 10)))))] : List UInt8)⟩) (vs := [.int .u8 (IntKind.u8.wrap (IntKind.i64.wrap (48 + (Int.tmod p_0 10))))]) (obs := [(⟨g_26, 0, none⟩, .int .u8 (IntKind.u8.wrap (IntKind.i64.wrap (48 + (Int.tmod p_0 10)))))]) rfl hK ⟨_, hE.sel [] rfl rfl⟩ rfl (fun _ => by kernel_rfl) ⟨((hE.blk 0 rfl).cell 0).trans rfl, trivial⟩ rfl rfl rfl ?_; clear hK a; intro a hK; refine rh_run (i := 9) (d := 40) (v' := .string ⟨List.toArray v_27⟩) #[true, true, true, true, true, true, true, true, true, true, false] (by kernel_rfl) hK ⟨_, hE.sel [] rfl rfl⟩ rfl (by kernel_rfl) (by kernel_rfl) (by kernel_rfl) (by kernel_rfl) (fun _ _ _ h => h) (ex_eq rfl (fun _ => rfl) (fun _ => rfl) (by kernel_rfl) (fun W => run_str_add hy_27 W)) rfl rfl rfl ?_; clear hK a; intro a hK; refine rh_take (i := 10) (d := 2) (v' := .string ⟨List.toArray v_27⟩) (vs := []) (obs := []) #[true, true, true, true, true, true, true, true, true, true, true] (by kernel_rfl) hK ⟨_, hE.sel [] rfl rfl⟩ rfl (by kernel_rfl) (by kernel_rfl) (by kernel_rfl) (by kernel_rfl) (fun _ _ _ h => h) (fun _ => by kernel_rfl) (fun _ _ _ => trivial) rfl rfl rfl ?_; clear hK a; intro a hK; refine wpAnyH_done (by kernel_rfl) ?_ _; refine xt_norm ?_; exact ⟨v_27, _, hK.weak ⟨rfl, trivial⟩, hE.sel [] rfl rfl, Option.some.inj hG⟩
    ·refine rh_new (d := 38) (v := fun g => .slice (some ⟨g, 0, none⟩) 1 1) (cs := #[.int .u8 (IntKind.u8.wrap (IntKind.i64.wrap (48 + (Int.tmod p_0 10))))]) (t := 5) rfl hK hE rfl (fun _ _ => by kernel_rfl) rfl rfl ?_; clear hK hE a; intro a g_26 w_32 hK hE; refine ⟨⟨_, hE.sel [] rfl rfl⟩, ?_⟩; refine rh_all [2, 8] (by kernel_rfl) (by simp) ⟨?_, ?_, trivial⟩
     ·refine rh_call (d := 33) (f := 156) (args := #[.int .i64 (IntKind.i64.wrap (Int.tdiv p_0 10))]) rfl hK rfl (fun _ => by kernel_rfl) rfl rfl (ih (IntKind.i64.wrap (Int.tdiv p_0 10)) (fun g => g < _) _ (fun _ h => h) (hT.to hE.b)  _ hy_25) ?_; rintro e w_33 ⟨rfl, hb⟩; replace hE := hE.call hb; obtain ⟨S_34, hE⟩ : ∃ S, Es _ _ _ S _ := ⟨_, hE⟩; clear hb; refine ⟨_, rfl, ⟨_, hE.sel [] rfl rfl⟩, ?_⟩; clear hK a; intro a hK; refine rh_all [8] (by kernel_rfl) (by simp) ⟨?_, trivial⟩; refine rh_op (d := 39) (v' := .string ⟨List.toArray ([UInt8.ofNat (Int.toNat (IntKind.u8.wrap (IntKind.i64.wrap (48 + (Int.tmod p_0 10)))))] : List UInt8)⟩) (vs := [.int .u8 (IntKind.u8.wrap (IntKind.i64.wrap (48 + (Int.tmod p_0 10))))]) (obs := [(⟨g_26, 0, none⟩, .int .u8 (IntKind.u8.wrap (IntKind.i64.wrap (48 + (Int.tmod p_0 10)))))]) rfl hK ⟨_, hE.sel [] rfl rfl⟩ rfl (fun _ => by kernel_rfl) ⟨((hE.blk 0 rfl).cell 0).trans rfl, trivial⟩ rfl rfl rfl ?_; clear hK a; intro a hK; refine rh_run (i := 9) (d := 40) (v' := .string ⟨List.toArray v_27⟩) #[true, true, true, true, true, true, true, true, true, true, false] (by kernel_rfl) hK ⟨_, hE.sel [] rfl rfl⟩ rfl (by kernel_rfl) (by kernel_rfl) (by kernel_rfl) (by kernel_rfl) (fun _ _ _ h => h) (ex_eq rfl (fun _ => rfl) (fun _ => rfl) (by kernel_rfl) (fun W => run_str_add hy_27 W)) rfl rfl rfl ?_; clear hK a; intro a hK; refine rh_take (i := 10) (d := 2) (v' := .string ⟨List.toArray v_27⟩) (vs := []) (obs := []) #[true, true, true, true, true, true, true, true, true, true, true] (by kernel_rfl) hK ⟨_, hE.sel [] rfl rfl⟩ rfl (by kernel_rfl) (by kernel_rfl) (by kernel_rfl) (by kernel_rfl) (fun _ _ _ h => h) (fun _ => by kernel_rfl) (fun _ _ _ => trivial) rfl rfl rfl ?_; clear hK a; intro a hK; refine wpAnyH_done (by kernel_rfl) ?_ _; refine xt_norm ?_; exact ⟨v_27, _, hK.weak ⟨rfl, trivial⟩, hE.sel [] rfl rfl, Option.some.inj hG⟩
     ·refine rh_op (d := 39) (v' := .string ⟨List.toArray ([UInt8.ofNat (Int.toNat (IntKind.u8.wrap (IntKind.i64.wrap (48 + (Int.tmod p_0 10)))))] : List UInt8)⟩) (vs := [.int .u8 (IntKind.u8.wrap (IntKind.i64.wrap (48 + (Int.tmod p_0 10))))]) (obs := [(⟨g_26, 0, none⟩, .int .u8 (IntKind.u8.wrap (IntKind.i64.wrap (48 + (Int.tmod p_0 10)))))]) rfl hK ⟨_, hE.sel [] rfl rfl⟩ rfl (fun _ => by kernel_rfl) ⟨((hE.blk 0 rfl).cell 0).trans rfl, trivial⟩ rfl rfl rfl ?_; clear hK a; intro a hK; refine rh_all [2] (by kernel_rfl) (by simp) ⟨?_, trivial⟩; refine rh_call (d := 33) (f := 156) (args := #[.int .i64 (IntKind.i64.wrap (Int.tdiv p_0 10))]) rfl hK rfl (fun _ => by kernel_rfl) rfl rfl (ih (IntKind.i64.wrap (Int.tdiv p_0 10)) (fun g => g < _) _ (fun _ h => h) (hT.to hE.b)  _ hy_25) ?_; rintro e w_35 ⟨rfl, hb⟩; replace hE := hE.call hb; obtain ⟨S_36, hE⟩ : ∃ S, Es _ _ _ S _ := ⟨_, hE⟩; clear hb; refine ⟨_, rfl, ⟨_, hE.sel [] rfl rfl⟩, ?_⟩; clear hK a; intro a hK; refine rh_run (i := 9) (d := 40) (v' := .string ⟨List.toArray v_27⟩) #[true, true, true, true, true, true, true, true, true, true, false] (by kernel_rfl) hK ⟨_, hE.sel [] rfl rfl⟩ rfl (by kernel_rfl) (by kernel_rfl) (by kernel_rfl) (by kernel_rfl) (fun _ _ _ h => h) (ex_eq rfl (fun _ => rfl) (fun _ => rfl) (by kernel_rfl) (fun W => run_str_add hy_27 W)) rfl rfl rfl ?_; clear hK a; intro a hK; refine rh_take (i := 10) (d := 2) (v' := .string ⟨List.toArray v_27⟩) (vs := []) (obs := []) #[true, true, true, true, true, true, true, true, true, true, true] (by kernel_rfl) hK ⟨_, hE.sel [] rfl rfl⟩ rfl (by kernel_rfl) (by kernel_rfl) (by kernel_rfl) (by kernel_rfl) (fun _ _ _ h => h) (fun _ => by kernel_rfl) (fun _ _ _ => trivial) rfl rfl rfl ?_; clear hK a; intro a hK; refine wpAnyH_done (by kernel_rfl) ?_ _; refine xt_norm ?_; exact ⟨v_27, _, hK.weak ⟨rfl, trivial⟩, hE.sel [] rfl rfl, Option.some.inj hG⟩
   ·clear hK hE a; rintro a w_39 ⟨v_38, S_40, hK, hE, ho_⟩; subst ho_; replace hG := hG_37; clear hG_37; refine wp_ret ?_; refine vc_ret (v' := .string ⟨List.toArray v_38⟩) (vs := []) (obs := []) hK (fun _ => by kernel_rfl) trivial rfl ?_; obtain rfl := Option.some.inj hG; exact ⟨rfl, hE.b⟩
end Go.Proofs.YtggaodokkcoagaaGreatDoor
namespace Go.Proofs.YtggaodokkcoagaaGreatDoor
open Go.RowKit
theorem apS_ok {a b : List UInt8} (h : a.length + b.length ≤ 9223372036854775807) : apS a b = some (a ++ b) := if_pos h
theorem dig_small {z : Int} (h0 : 0 ≤ z) (h1 : z < 10) : UInt8.ofNat (Int.toNat (IntKind.u8.wrap (IntKind.i64.wrap (48 + z)))) = UInt8.ofNat (48 + z.toNat) := by
 congr 1
 simp only [IntKind.wrap_i64, IntKind.wrap_u8]; omega
theorem decimal_eq : ∀ (F : Nat) (n : Int), -9223372036854775808 ≤ n → n ≤ 9223372036854775807 → n.natAbs < 10 ^ F → Gai (F + 1) n = some (Lib.itoa n) := by
 intro F
 induction F with
 | zero =>
  intro n h0 h1 h; have : n = 0 := by simp at h; omega
  subst this; rw [itoa_small (by omega) (by omega)]; rfl
 | succ F ih =>
  intro n h0 h1 h; have hp : 10 ^ (F + 1) = 10 * 10 ^ F := by rw [Nat.pow_succ, Nat.mul_comm]
  have len : ∀ z : Int, -9223372036854775808 ≤ z → z ≤ 9223372036854775807 → (Lib.itoa z).length ≤ 21 := fun z a b => by have := numL_len a b; simpa [numL] using this
  unfold Gai
  by_cases hn : n < 0
  ·rw [show decide (n < 0) = true from decide_eq_true hn]; have hw : IntKind.i64.wrap (Int.tdiv n 10) = -(-n / 10) := by rw [tdiv_neg (by omega), IntKind.wrap_i64]; omega
   simp only [ifB]; rw [hw]
   by_cases hs : -10 < n
   ·rw [show (-(-n / 10) == 0) = true from beq_iff_eq.2 (by omega)]; simp only []; rw [apS_ok (by simp), itoa_negs hn hs]; simp only [Option.bind, List.cons_append, List.nil_append]
    congr 3
    rw [show (48 - n) = 48 + (-n) by omega, dig_small (by omega) (by omega)]
    congr 1
    congr 1
    omega
   ·rw [show (-(-n / 10) == 0) = false from beq_eq_false_iff_ne.2 (by omega)]; simp only []; rw [ih _ (by omega) (by omega) (by omega)]; simp only [Option.bind]; rw [apS_ok (by have := len (-(-n / 10)) (by omega) (by omega); simp only [List.length_cons, List.length_nil]; omega), itoa_negb (n := n) (by omega)]; simp only; rw [tmod_neg (by omega), show (48 - -(-n % 10)) = 48 + (-n % 10) by omega, dig_small (by omega) (by omega), show (-n % 10).toNat = n.natAbs % 10 by omega]
  ·rw [show decide (n < 0) = false from decide_eq_false hn]; simp only [ifB]
   by_cases hs : n < 10
   ·rw [show decide (n < 10) = true from decide_eq_true hs]; simp only []; rw [dig_small (by omega) hs, itoa_small (by omega) hs]
   ·rw [show decide (n < 10) = false from decide_eq_false hs]; simp only []; have hw : IntKind.i64.wrap (Int.tdiv n 10) = n / 10 := by rw [Int.tdiv_eq_ediv_of_nonneg (by omega), IntKind.wrap_i64]; omega
    rw [hw, ih _ (by omega) (by omega) (by omega)]; simp only [Option.bind]; rw [apS_ok (by have := len (n / 10) (by omega) (by omega); simp only [List.length_cons, List.length_nil]; omega), itoa_big (n := n) (by omega)]; simp only; rw [Int.tmod_eq_emod_of_nonneg (by omega), dig_small (by omega) (by omega), show (n % 10).toNat = n.toNat % 10 by omega]
theorem decimal_any (z : Int) (h0 : -9223372036854775808 ≤ z) (h1 : z ≤ 9223372036854775807) (w0 w : World) (hT : Tb w0) (hb : Below w0.heap.size w0 w) : Calls Tryz.prog 156 #[.int .i64 z] w fun e w' => e = .returned (.string ⟨(Lib.itoa z).toArray⟩) ∧ Below w.heap.size w w' :=
 g_regulatorref03_Decimal 26 z (fun _ => False) w (fun _ h => h.elim) (hT.to hb) _ (decimal_eq 25 z h0 h1 (by omega))
theorem rText_any (zs : List Int) (B : Option Addr) (d : Nat) (w0 w : World) (hT : Tb w0) (hb0 : Below w0.heap.size w0 w) (hz : ∀ W, Below w.heap.size w W → KS .i64 W B zs) (hi : inI zs) (hzl : zs.length ≤ 100000) :
  Calls Tryz.prog 125 #[.slice B zs.length d] w fun e w' => ∃ v, e = .returned v ∧ OwnK .u8 5 w' w.heap.size v (textL zs) ∧ Below w.heap.size w w' := by
 obtain ⟨i0, hi0, hz0, hz1, hz2⟩ := info_parts infoB; have HT := hide hT; have HB0 := hide hb0; have HZ := hide hz; have HI := hide hi; have hsz0 := hb0.size; clear hT hb0 hz hi
 go_enter Tryz.func125, Tryz.ntmps125
 go_wp2
 go_loopw [3, 4] (fun u i wr => ∃ k : Nat, k ≤ zs.length ∧ i = .int .i64 k ∧ OwnK .u8 5 wr w.heap.size u (textL (zs.take k)) ∧ Below w.heap.size w wr) (fun _ i _ => zs.length - (intOf i).toNat)
 case atStart => exact ⟨0, Nat.zero_le _, rfl, by simpa [textL] using OwnK.nil, Below.refl _ _⟩
 case round =>
  obtain ⟨k, hk, rfl, ho, hb⟩ := hrel; have hsz := hb.size
  by_cases hlt : k < zs.length
  ·obtain ⟨b, o, rfl, hbl, hc⟩ := (HZ.out wr hb).at_ (i := k) hlt; have c0 := hc k hlt; have hr := HI.out zs[k] (List.getElem_mem hlt); have HC := hide hc; have hll := textL_len (l := zs.take k) (fun z hz => HI.out z (List.mem_of_mem_take hz)); have hll2 : (textL (zs.take k)).length ≤ 22 * zs.length := Nat.le_trans hll (Nat.mul_le_mul_left _ (by rw [List.length_take]; omega)); have hnl := numL_len hr.1 hr.2; obtain ⟨z, hzk⟩ : ∃ z, z = zs[k] := ⟨_, rfl⟩; rw [← hzk] at c0 hr hnl; have HSN := hide (show textL (zs.take (k + 1)) = textL (zs.take k) ++ numL z ++ [32] by rw [textL_take hlt, ← hzk]); have hr1 := hr.1; have hr2 := hr.2; have HO := hide ho; have HB := hide hb; have DA := hide (decimal_any z hr1 hr2 w0 wr HT.out (HB0.out.trans (hb.mono hsz0))); obtain ⟨L, hL⟩ : ∃ L, L = textL (zs.take k) := ⟨_, rfl⟩; obtain ⟨s, hs⟩ : ∃ s : ByteArray, s = ⟨(Lib.itoa z).toArray⟩ := ⟨_, rfl⟩; have hss : s.size ≤ 21 := by rw [hs]; simpa [ByteArray.size, numL] using hnl
   have hbs : Lib.strCells s = (numL z).map (Value.int .u8) := by rw [hs]; simp [Lib.strCells, numL]
   have hns : s.size = (numL z).length := by rw [hs]; simp [ByteArray.size, numL]
   rw [← hL] at HSN HO hll2; rw [← hs] at DA; have HBS := hide hbs; have HNS := hide hns; clear hc hzk hll hr ho hb hL hs hbs hns
   go_wp2_with (first
    | (go_at_call 156; with_reducible refine DA.out.mono ?_; rintro e w2 ⟨rfl, hb2⟩; have HB2 := hide (HB.out.trans (hb2.mono hsz)); have HO2 := hide (OwnK.below HO.out hb2); have hs2 := hb2.size; clear hb2)
    | (at_builtin; refine Lib.wpList_append_own_string _ rfl _ _ 174 9 rfl w.heap.size 5 i0 Tryz.underlying174 Tryz.underlying9 hi0 hz0 hz1 hz2 _ _ _ rfl HO2.out s rfl (by simp only [maxLen]; omega) (by omega) (by omega) ?_; intro v3 w3 hown3 hgrow3 _; have HO3 := hide (show OwnK .u8 5 w3 w.heap.size v3 (L ++ numL z) from OwnK.app hown3 (by have := HNS.out; simp only [List.length_append]; omega) (by rw [HBS.out])); have HB3 := hide (HB2.out.grown hgrow3 (by omega) (fun g hg => (own_lt HO2.out hg).1)); have hs3 := hgrow3.size; clear hown3 hgrow3)
    | (at_builtin; refine wpList_append_rd _ rfl _ _ 174 rfl w.heap.size 5 i0 _ 1 1 Tryz.underlying174 hi0 hz0 hz1 hz2 rfl (by decide) _ _ _ rfl (own_keep HO3.out (fun g hg => Below.heap_alloc _ _ g (own_lt HO3.out hg).2)) (some ⟨w3.heap.size, 0, none⟩) 1 1 [.int .u8 32] rfl rfl (Rd.new_row _ _ _) (by simp [Value.oneCell']) ?_ ?_ ?_ ?_))
   ·simp only [maxLen, List.length_append]; omega
   ·simp only [List.length_append]; omega
   ·simp; omega
   intro v' w6 hown' hgrow _; have b6 : Below w.heap.size w w6 := (HB3.out.alloc (by omega) _).grown hgrow (by simp; omega) (fun g hg => (own_lt HO3.out hg).1); have hown2 : OwnK .u8 5 w6 w.heap.size v' (textL (zs.take (k + 1))) := by
    rw [HSN.out]; exact OwnK.app (l' := [32]) hown' (by simp only [List.length_append, List.length_cons, List.length_nil]) (by simp)
   have HO6 := hide hown2; have HB6 := hide b6; clear hown' hgrow hown2 b6
   go_wp2
   go_roundw
   case rel => exact ⟨k + 1, by omega, by go_num, HO6.out, HB6.out⟩
   case measure => simp [intOf]; omega
  ·obtain rfl : k = zs.length := by omega
   rw [List.take_length] at ho; have HO6 := hide ho; have HB := hide hb; clear ho hb
   go_wp2
   go_ret
   exact ⟨_, rfl, HO6.out, HB.out⟩
def Ga9 : Nat → (List Int) → Option Int
 | 0, _ => none
 | _ + 1, l => whenG (okI l) (intsF l)
theorem g_regulatorref03_Ints (F : Nat) (A : Option Addr) (c : Nat) (l : List Int) (S0 : Nat → Prop) (w0 : World) (hS : ∀ g, S0 g → g < w0.heap.size) (hT : Tb w0) (h : RowS S0 w0 A (l.flatMap c_i64)) (hc : l.length ≤ c) (r : Int) (hG : Ga9 F l = some r) :
  Calls Tryz.prog 75 #[.slice A l.length c] w0 fun e w' => e = .returned (.int .u64 r) ∧ Below w0.heap.size w0 w' := by
 cases F with
 | zero => cases hG
 | succ F =>
 obtain ⟨h1, rfl⟩ := whenG_some hG; obtain ⟨h2, h3⟩ := of_decide_eq_true h1; have hlen := textL_len h2; obtain ⟨L, hL⟩ : ∃ L, L = textL l := ⟨_, rfl⟩; have hLl : L.length ≤ 9223372036854775807 := by rw [hL]; omega
 have hR : intsF l = sumB L := by rw [hL]; rfl
 have T1 := rText_any l A c w0 w0 hT (Below.refl _ _) (ks_low hS h) h2 h3; rw [← hL] at T1; rw [hR]; have T1 := hide T1; have HS := hide fun A c W s => rSum_any A c L W hLl s
 clear hG h1 h hS hT hlen h2 hL hLl hR h3
 go_enter Tryz.func75, Tryz.ntmps75
 go_wp2_with (first
  | (go_at_call 125; with_reducible refine T1.out.mono ?_; rintro e w3 ⟨v3, rfl, ho3, hb3⟩; obtain ⟨A3, c3, rfl, hl3, hm3, hk3⟩ := ho3.form; have B3 := hide hb3; have K3 := hide hk3; clear ho3 hb3 hk3)
  | (go_at_call 124; with_reducible refine (HS.out A3 c3 _ K3.out).mono ?_; rintro e w4 ⟨rfl, rfl⟩))
 go_ret
 exact ⟨rfl, B3.out⟩
def Gbz : Nat → Int → (List Int) → Option Int
 | 0, _, _ => none
 | _ + 1, d, l => whenG (decide (inI l ∧ l.length ≤ 10000 ∧ 1 ≤ l.length)) (nextF d l)
theorem g_regulatorref03_Next (F : Nat) (n : Int) (A : Option Addr) (c : Nat) (l : List Int) (S0 : Nat → Prop) (w0 : World) (hS : ∀ g, S0 g → g < w0.heap.size) (hT : Tb w0) (h : RowS S0 w0 A (l.flatMap c_i64)) (hc : l.length ≤ c) (r : Int) (hG : Gbz F n l = some r) :
  Calls Tryz.prog 122 #[.int .u64 n, .slice A l.length c] w0 fun e w' => e = .returned (.int .u64 r) ∧ Below w0.heap.size w0 w' := by
 cases F with
 | zero => cases hG
 | succ F =>
 obtain ⟨h1, rfl⟩ := whenG_some hG; obtain ⟨h2, h3, h4⟩ := of_decide_eq_true h1; have hlen := textL_len h2; obtain ⟨i0, hi0, hz0, hz1, hz2⟩ := info_parts infoB; obtain ⟨T, hTt⟩ : ∃ T, T = textL l := ⟨_, rfl⟩; obtain ⟨D, hD⟩ : ∃ D, D = octL n := ⟨_, rfl⟩; obtain ⟨L, hL⟩ : ∃ L, L = D ++ T := ⟨_, rfl⟩; have hTl : T.length ≤ 300000 := by rw [hTt]; omega
 have hDl : D.length = 8 := by rw [hD]; rfl
 have hLl : L.length ≤ 9223372036854775807 := by rw [hL, List.length_append]; omega
 have hR : nextF n l = sumB L := by rw [hL, hD, hTt]; rfl
 have T1 : Hid (∀ w, Below w0.heap.size w0 w → Calls Tryz.prog 125 #[.slice A l.length c] w fun e w' => ∃ v, e = .returned v ∧ OwnK .u8 5 w' w.heap.size v T ∧ Below w.heap.size w w') := by
  refine hide fun w hb => ?_
  rw [hTt]; exact rText_any l A c w0 w hT hb (fun W hW => ks_low hS h W (hb.trans (hW.mono hb.size))) h2 (by omega)
 have T0 : Hid (∀ w, Calls Tryz.prog 154 #[.int .u64 n] w fun e w' => ∃ v, e = .returned v ∧ OwnK .u8 5 w' w.heap.size v D ∧ Below w.heap.size w w') := by
  refine hide fun w => ?_
  rw [hD]; exact eight_any n w
 have HS := hide fun A c W s => rSum_any A c L W hLl s
 have HL := hide hL; have HTL := hide hTl; have HDL := hide hDl; have HLL := hide (show L.length = D.length + T.length by rw [hL, List.length_append]); rw [hR]; clear hG h1 h hS hT hlen h2 hL hLl hR h3 h4 hTt hD hTl hDl
 go_enter Tryz.func122, Tryz.ntmps122
 go_wp2_with (first
  | (go_at_call 154; with_reducible refine (T0.out _).mono ?_; rintro e w2 ⟨v2, rfl, ho2, hb2⟩; have O2 := hide ho2; have B2 := hide hb2; clear ho2 hb2)
  | (go_at_call 125; with_reducible refine (T1.out w2 B2.out).mono ?_; rintro e w3 ⟨v3, rfl, ho3, hb3⟩; have O3 := hide (OwnK.below O2.out hb3); have B3 := hide (B2.out.trans (hb3.mono B2.out.size)); obtain ⟨A3, c3, rfl, hl3, hm3, hk3⟩ := ho3.form; have K3 := hide hk3; clear ho3 hb3 hk3)
  | (at_builtin; refine wpList_append_rd _ rfl _ _ 174 rfl w0.heap.size 5 i0 _ 1 1 Tryz.underlying174 hi0 hz0 hz1 hz2 rfl (by decide) _ _ _ rfl O3.out A3 T.length c3 (T.map (Value.int .u8)) rfl (by simp) K3.out (by intro u hu; obtain ⟨b, _, rfl⟩ := List.mem_map.1 hu; rfl) (by have := HTL.out; have := HDL.out; simp only [maxLen]; omega) (by have := HTL.out; have := HDL.out; omega) B3.out.size ?_; intro v6 w6 hown6 hgrow6 _; have O6 := hide (show OwnK .u8 5 w6 w0.heap.size v6 L from HL.out ▸ OwnK.app hown6 (by simp only [List.length_append]) rfl); have B6 := hide (B3.out.grown hgrow6 B3.out.size (fun g hg => (own_lt O3.out hg).1)); obtain ⟨A6, c6, rfl, hl6, hm6, hk6⟩ := O6.out.form; have K6 := hide hk6; clear hown6 hgrow6 hk6)
  | (go_at_call 124; with_reducible refine (HS.out A6 c6 _ K6.out).mono ?_; rintro e w4 ⟨rfl, rfl⟩))
 go_ret
 exact ⟨rfl, B6.out⟩
def Gbv : Nat → (List Int) → Option (Int × Int)
 | 0, _ => none
 | _ + 1, l => some (rootS l)
theorem g_tree_Root (F : Nat) (A : Option Addr) (c : Nat) (l : List Int) (S0 : Nat → Prop) (w0 : World) (hS : ∀ g, S0 g → g < w0.heap.size) (hT : Tb w0) (h : RowS S0 w0 A (l.flatMap c_u64)) (hc : l.length ≤ c) (r : Int × Int) (hG : Gbv F l = some r) :
  Calls Tryz.prog 114 #[.slice A l.length c] w0 fun e w' => e = .returned (.tuple #[.int .u64 r.1, .int .i64 r.2]) ∧ Below w0.heap.size w0 w' := by
 cases F with
 | zero => cases hG
 | succ F =>
 obtain rfl := Option.some.inj hG; exact Root_any A c l w0 hc h.ks
def Gbe : Nat → (List Int) → Option (Int × Int)
 | 0, _ => none
 | _ + 1, l => some (rootS l)
theorem g_regulatorref24_Root (F : Nat) (A : Option Addr) (c : Nat) (l : List Int) (S0 : Nat → Prop) (w0 : World) (hS : ∀ g, S0 g → g < w0.heap.size) (hT : Tb w0) (h : RowS S0 w0 A (l.flatMap c_u64)) (hc : l.length ≤ c) (r : Int × Int) (hG : Gbe F l = some r) :
  Calls Tryz.prog 108 #[.slice A l.length c] w0 fun e w' => e = .returned (.tuple #[.int .u64 r.1, .int .i64 r.2]) ∧ Below w0.heap.size w0 w' := by
 cases F with
 | zero => cases hG
 | succ F =>
 obtain rfl := Option.some.inj hG; exact rRoot_any A c l w0 hc h.ks
def Gb4 : Nat → (List Int) → Int → Option (List Int × Int)
 | 0, _, _ => none
 | _ + 1, l, i => some (incS l i)
theorem g_tree_Include (F : Nat) (A : Option Addr) (c : Nat) (l : List Int) (i : Int) (S0 : Nat → Prop) (w0 : World) (hS : ∀ g, S0 g → g < w0.heap.size) (hT : Tb w0) (h : RowS S0 w0 A (l.flatMap c_u64)) (hc : l.length ≤ c) (r : List Int × Int) (hG : Gb4 F l i = some r) :
  Calls Tryz.prog 64 #[.slice A l.length c, .int .i64 i] w0 fun e w' => ∃ (q_0_A : Option Addr), ∃ (q_0_c : Nat), ∃ (q_0 : List Int), (r.1 = q_0) ∧ e = .returned (.tuple #[.slice q_0_A q_0.length q_0_c, .int .i64 r.2]) ∧ Below w0.heap.size w0 w' ∧ (RowS (ext S0 w0 w') w' q_0_A (q_0.flatMap c_u64)) ∧ (q_0.length ≤ q_0_c) := by
 cases F with
 | zero => cases hG
 | succ F =>
 obtain rfl := Option.some.inj hG; exact (Include_anyF A c l i w0 hc h.ks).mono fun e w' ⟨A1, c1, h1, h2, _, h4, h5⟩ => ⟨A1, c1, _, rfl, h1, h5, row_fresh h4.1 h4.2, h2⟩
def Gb1 : Nat → (List Int) → Int → Option (List Int × Int)
 | 0, _, _ => none
 | _ + 1, l, i => some (incS l i)
theorem g_regulatorref24_Include (F : Nat) (A : Option Addr) (c : Nat) (l : List Int) (i : Int) (S0 : Nat → Prop) (w0 : World) (hS : ∀ g, S0 g → g < w0.heap.size) (hT : Tb w0) (h : RowS S0 w0 A (l.flatMap c_u64)) (hc : l.length ≤ c) (r : List Int × Int) (hG : Gb1 F l i = some r) :
  Calls Tryz.prog 109 #[.slice A l.length c, .int .i64 i] w0 fun e w' => ∃ (q_0_A : Option Addr), ∃ (q_0_c : Nat), ∃ (q_0 : List Int), (r.1 = q_0) ∧ e = .returned (.tuple #[.slice q_0_A q_0.length q_0_c, .int .i64 r.2]) ∧ Below w0.heap.size w0 w' ∧ (RowS (ext S0 w0 w') w' q_0_A (q_0.flatMap c_u64)) ∧ (q_0.length ≤ q_0_c) := by
 cases F with
 | zero => cases hG
 | succ F =>
 obtain rfl := Option.some.inj hG; exact (rInclude_anyF A c l i w0 hc h.ks).mono fun e w' ⟨A1, c1, h1, h2, _, h4, h5⟩ => ⟨A1, c1, _, rfl, h1, h5, row_fresh h4.1 h4.2, h2⟩
def Gb3 : Nat → (List Int) → Int → Option (List Int × Int)
 | 0, _, _ => none
 | _ + 1, l, i => some (extS l i)
theorem g_tree_Extend (F : Nat) (A : Option Addr) (c : Nat) (l : List Int) (i : Int) (S0 : Nat → Prop) (w0 : World) (hS : ∀ g, S0 g → g < w0.heap.size) (hT : Tb w0) (h : RowS S0 w0 A (l.flatMap c_u64)) (hc : l.length ≤ c) (r : List Int × Int) (hG : Gb3 F l i = some r) :
  Calls Tryz.prog 25 #[.slice A l.length c, .int .i64 i] w0 fun e w' => ∃ (q_0_A : Option Addr), ∃ (q_0_c : Nat), ∃ (q_0 : List Int), (r.1 = q_0) ∧ e = .returned (.tuple #[.slice q_0_A q_0.length q_0_c, .int .i64 r.2]) ∧ Below w0.heap.size w0 w' ∧ (RowS (ext S0 w0 w') w' q_0_A (q_0.flatMap c_u64)) ∧ (q_0.length ≤ q_0_c) := by
 cases F with
 | zero => cases hG
 | succ F =>
 obtain rfl := Option.some.inj hG; exact (Extend_anyF A c l i w0 hc h.ks).mono fun e w' ⟨A1, c1, h1, h2, _, h4, h5⟩ => ⟨A1, c1, _, rfl, h1, h5, row_fresh h4.1 h4.2, h2⟩
def Gb0 : Nat → (List Int) → Int → Option (List Int × Int)
 | 0, _, _ => none
 | _ + 1, l, i => some (extS l i)
theorem g_regulatorref24_Extend (F : Nat) (A : Option Addr) (c : Nat) (l : List Int) (i : Int) (S0 : Nat → Prop) (w0 : World) (hS : ∀ g, S0 g → g < w0.heap.size) (hT : Tb w0) (h : RowS S0 w0 A (l.flatMap c_u64)) (hc : l.length ≤ c) (r : List Int × Int) (hG : Gb0 F l i = some r) :
  Calls Tryz.prog 111 #[.slice A l.length c, .int .i64 i] w0 fun e w' => ∃ (q_0_A : Option Addr), ∃ (q_0_c : Nat), ∃ (q_0 : List Int), (r.1 = q_0) ∧ e = .returned (.tuple #[.slice q_0_A q_0.length q_0_c, .int .i64 r.2]) ∧ Below w0.heap.size w0 w' ∧ (RowS (ext S0 w0 w') w' q_0_A (q_0.flatMap c_u64)) ∧ (q_0.length ≤ q_0_c) := by
 cases F with
 | zero => cases hG
 | succ F =>
 obtain rfl := Option.some.inj hG; exact (rExtend_anyF A c l i w0 hc h.ks).mono fun e w' ⟨A1, c1, h1, h2, _, h4, h5⟩ => ⟨A1, c1, _, rfl, h1, h5, row_fresh h4.1 h4.2, h2⟩
def Gb5 : Nat → Int → Int → Int → Int → (List Int) → Option Bool
 | 0, _, _, _, _, _ => none
 | _ + 1, root, leaf, i, n, path => whenG (decide (path.length ≤ 9223372036854775807)) (inclS root leaf i n path)
theorem g_tree_Included (F : Nat) (root leaf i n : Int) (A : Option Addr) (c : Nat) (path : List Int) (S0 : Nat → Prop) (w0 : World) (hS : ∀ g, S0 g → g < w0.heap.size) (hT : Tb w0) (h : RowS S0 w0 A (path.flatMap c_u64)) (hc : path.length ≤ c) (r : Bool) (hG : Gb5 F root leaf i n path = some r) :
  Calls Tryz.prog 127 #[.int .u64 root, .int .u64 leaf, .int .i64 i, .int .i64 n, .slice A path.length c] w0 fun e w' => e = .returned (.bool r) ∧ Below w0.heap.size w0 w' := by
 cases F with
 | zero => cases hG
 | succ F =>
 obtain ⟨h1, rfl⟩ := whenG_some hG; exact included_any root leaf i n A c path w0 (of_decide_eq_true h1) h.ks
def Gb2 : Nat → Int → Int → Int → Int → (List Int) → Option Bool
 | 0, _, _, _, _, _ => none
 | _ + 1, root, leaf, i, n, path => whenG (decide (path.length ≤ 100)) (inclS root leaf i n path)
theorem g_regulatorref24_Included (F : Nat) (root leaf i n : Int) (A : Option Addr) (c : Nat) (path : List Int) (S0 : Nat → Prop) (w0 : World) (hS : ∀ g, S0 g → g < w0.heap.size) (hT : Tb w0) (h : RowS S0 w0 A (path.flatMap c_u64)) (hc : path.length ≤ c) (r : Bool) (hG : Gb2 F root leaf i n path = some r) :
  Calls Tryz.prog 137 #[.int .u64 root, .int .u64 leaf, .int .i64 i, .int .i64 n, .slice A path.length c] w0 fun e w' => e = .returned (.bool r) ∧ Below w0.heap.size w0 w' := by
 cases F with
 | zero => cases hG
 | succ F =>
 obtain ⟨h1, rfl⟩ := whenG_some hG; exact rIncluded_any root leaf i n A c path w0 (of_decide_eq_true h1) hc h.ks
def Gbu : Nat → Int → Int → Int → Int → (List Int) → Option Bool
 | 0, _, _, _, _, _ => none
 | _ + 1, a, b, m, n, path => whenG (decide (path.length ≤ 1000)) (growS a b m n path)
theorem g_tree_Extended (F : Nat) (a b m n : Int) (A : Option Addr) (c : Nat) (path : List Int) (S0 : Nat → Prop) (w0 : World) (hS : ∀ g, S0 g → g < w0.heap.size) (hT : Tb w0) (h : RowS S0 w0 A (path.flatMap c_u64)) (hc : path.length ≤ c) (r : Bool) (hG : Gbu F a b m n path = some r) :
  Calls Tryz.prog 37 #[.int .u64 a, .int .u64 b, .int .i64 m, .int .i64 n, .slice A path.length c] w0 fun e w' => e = .returned (.bool r) ∧ Below w0.heap.size w0 w' := by
 cases F with
 | zero => cases hG
 | succ F =>
 obtain ⟨h1, rfl⟩ := whenG_some hG; exact Extended_any a b m n A c path w0 (of_decide_eq_true h1) hc h.ks
def Gal : Nat → Int → Int → Int → Int → (List Int) → Option Bool
 | 0, _, _, _, _, _ => none
 | _ + 1, a, b, m, n, path => whenG (decide (path.length ≤ 100)) (growS a b m n path)
theorem g_regulatorref24_Extended (F : Nat) (a b m n : Int) (A : Option Addr) (c : Nat) (path : List Int) (S0 : Nat → Prop) (w0 : World) (hS : ∀ g, S0 g → g < w0.heap.size) (hT : Tb w0) (h : RowS S0 w0 A (path.flatMap c_u64)) (hc : path.length ≤ c) (r : Bool) (hG : Gal F a b m n path = some r) :
  Calls Tryz.prog 42 #[.int .u64 a, .int .u64 b, .int .i64 m, .int .i64 n, .slice A path.length c] w0 fun e w' => e = .returned (.bool r) ∧ Below w0.heap.size w0 w' := by
 cases F with
 | zero => cases hG
 | succ F =>
 obtain ⟨h1, rfl⟩ := whenG_some hG; exact rExtended_any a b m n A c path w0 (of_decide_eq_true h1) hc h.ks
end Go.Proofs.YtggaodokkcoagaaGreatDoor
namespace Go.Proofs.YtggaodokkcoagaaGreatDoor
open Go.RowKit Go.Maps
theorem zau (F : Nat) (p_0_A : Option Addr) (p_0_c : Nat) (p_0 : List Int) (r : Int) (hG : Gav F p_0 = some r) :
  Cf Tryz.prog 123 [.slice p_0_A p_0.length p_0_c] [RowC p_0_A p_0_c c_i64 tr p_0] (U r) := fun S0 w0 hS hT h => g_digest_Ints F p_0_A p_0_c p_0 S0 w0 hS hT h.1.r h.1.c r hG
theorem zbc (F : Nat) (p_0 : Int) (p_1_A : Option Addr) (p_1_c : Nat) (p_1 : List Int) (r : Int) (hG : Gbw F p_0 p_1 = some r) :
  Cf Tryz.prog 151 [U p_0, .slice p_1_A p_1.length p_1_c] [RowC p_1_A p_1_c c_i64 tr p_1] (U r) := fun S0 w0 hS hT h => g_digest_Next F p_0 p_1_A p_1_c p_1 S0 w0 hS hT h.1.r h.1.c r hG
theorem za1 (F : Nat) (p_0_A : Option Addr) (p_0_c : Nat) (p_0 : List Int) (r : Int) (hG : Ga9 F p_0 = some r) :
  Cf Tryz.prog 75 [.slice p_0_A p_0.length p_0_c] [RowC p_0_A p_0_c c_i64 tr p_0] (U r) := fun S0 w0 hS hT h => g_regulatorref03_Ints F p_0_A p_0_c p_0 S0 w0 hS hT h.1.r h.1.c r hG
theorem zbq (F : Nat) (p_0 : Int) (p_1_A : Option Addr) (p_1_c : Nat) (p_1 : List Int) (r : Int) (hG : Gbz F p_0 p_1 = some r) :
  Cf Tryz.prog 122 [U p_0, .slice p_1_A p_1.length p_1_c] [RowC p_1_A p_1_c c_i64 tr p_1] (U r) := fun S0 w0 hS hT h => g_regulatorref03_Next F p_0 p_1_A p_1_c p_1 S0 w0 hS hT h.1.r h.1.c r hG
theorem za9 (F : Nat) (p_0_A : Option Addr) (p_0_c : Nat) (p_0 : List Int) (r : Int × Int) (hG : Gbv F p_0 = some r) :
  Cf Tryz.prog 114 [.slice p_0_A p_0.length p_0_c] [RowC p_0_A p_0_c c_u64 tr p_0] (.tuple #[U r.1, I r.2]) := fun S0 w0 hS hT h => g_tree_Root F p_0_A p_0_c p_0 S0 w0 hS hT h.1.r h.1.c r hG
theorem za2 (F : Nat) (p_0_A : Option Addr) (p_0_c : Nat) (p_0 : List Int) (r : Int × Int) (hG : Gbe F p_0 = some r) :
  Cf Tryz.prog 108 [.slice p_0_A p_0.length p_0_c] [RowC p_0_A p_0_c c_u64 tr p_0] (.tuple #[U r.1, I r.2]) := fun S0 w0 hS hT h => g_regulatorref24_Root F p_0_A p_0_c p_0 S0 w0 hS hT h.1.r h.1.c r hG
theorem zcc (F : Nat) (p_0_A : Option Addr) (p_0_c : Nat) (p_0 : List Int) (p_1 : Int) (r : (List Int) × Int) (hG : Gb4 F p_0 p_1 = some r) :
  Cn Tryz.prog 64 [.slice p_0_A p_0.length p_0_c, I p_1] [RowC p_0_A p_0_c c_u64 tr p_0] (fun q : Ks => r.1 = q.l) (fun q => .tuple #[.slice q.A q.l.length q.c, I r.2]) (fun q => [RowC q.A q.c c_u64 tr q.l]) := fun S0 w0 hS hT h => (g_tree_Include F p_0_A p_0_c p_0 p_1 S0 w0 hS hT h.1.r h.1.c r hG).mono fun e w' ⟨A, c, l, hq, he, hb, hr, hc⟩ => ⟨⟨A, c, l⟩, hq, he, hb, ⟨hr, hc, fun _ _ => trivial⟩, trivial⟩
theorem zbw (F : Nat) (p_0_A : Option Addr) (p_0_c : Nat) (p_0 : List Int) (p_1 : Int) (r : (List Int) × Int) (hG : Gb1 F p_0 p_1 = some r) :
  Cn Tryz.prog 109 [.slice p_0_A p_0.length p_0_c, I p_1] [RowC p_0_A p_0_c c_u64 tr p_0] (fun q : Ks => r.1 = q.l) (fun q => .tuple #[.slice q.A q.l.length q.c, I r.2]) (fun q => [RowC q.A q.c c_u64 tr q.l]) := fun S0 w0 hS hT h => (g_regulatorref24_Include F p_0_A p_0_c p_0 p_1 S0 w0 hS hT h.1.r h.1.c r hG).mono fun e w' ⟨A, c, l, hq, he, hb, hr, hc⟩ => ⟨⟨A, c, l⟩, hq, he, hb, ⟨hr, hc, fun _ _ => trivial⟩, trivial⟩
theorem zcb (F : Nat) (p_0_A : Option Addr) (p_0_c : Nat) (p_0 : List Int) (p_1 : Int) (r : (List Int) × Int) (hG : Gb3 F p_0 p_1 = some r) :
  Cn Tryz.prog 25 [.slice p_0_A p_0.length p_0_c, I p_1] [RowC p_0_A p_0_c c_u64 tr p_0] (fun q : Ks => r.1 = q.l) (fun q => .tuple #[.slice q.A q.l.length q.c, I r.2]) (fun q => [RowC q.A q.c c_u64 tr q.l]) := fun S0 w0 hS hT h => (g_tree_Extend F p_0_A p_0_c p_0 p_1 S0 w0 hS hT h.1.r h.1.c r hG).mono fun e w' ⟨A, c, l, hq, he, hb, hr, hc⟩ => ⟨⟨A, c, l⟩, hq, he, hb, ⟨hr, hc, fun _ _ => trivial⟩, trivial⟩
theorem zbv (F : Nat) (p_0_A : Option Addr) (p_0_c : Nat) (p_0 : List Int) (p_1 : Int) (r : (List Int) × Int) (hG : Gb0 F p_0 p_1 = some r) :
  Cn Tryz.prog 111 [.slice p_0_A p_0.length p_0_c, I p_1] [RowC p_0_A p_0_c c_u64 tr p_0] (fun q : Ks => r.1 = q.l) (fun q => .tuple #[.slice q.A q.l.length q.c, I r.2]) (fun q => [RowC q.A q.c c_u64 tr q.l]) := fun S0 w0 hS hT h => (g_regulatorref24_Extend F p_0_A p_0_c p_0 p_1 S0 w0 hS hT h.1.r h.1.c r hG).mono fun e w' ⟨A, c, l, hq, he, hb, hr, hc⟩ => ⟨⟨A, c, l⟩, hq, he, hb, ⟨hr, hc, fun _ _ => trivial⟩, trivial⟩
theorem zcd (F : Nat) (p_0 : Int) (p_1 : Int) (p_2 : Int) (p_3 : Int) (p_4_A : Option Addr) (p_4_c : Nat) (p_4 : List Int) (r : Bool) (hG : Gb5 F p_0 p_1 p_2 p_3 p_4 = some r) :
  Cf Tryz.prog 127 [U p_0, U p_1, I p_2, I p_3, .slice p_4_A p_4.length p_4_c] [RowC p_4_A p_4_c c_u64 tr p_4] (B r) := fun S0 w0 hS hT h => g_tree_Included F p_0 p_1 p_2 p_3 p_4_A p_4_c p_4 S0 w0 hS hT h.1.r h.1.c r hG
theorem zbx (F : Nat) (p_0 : Int) (p_1 : Int) (p_2 : Int) (p_3 : Int) (p_4_A : Option Addr) (p_4_c : Nat) (p_4 : List Int) (r : Bool) (hG : Gb2 F p_0 p_1 p_2 p_3 p_4 = some r) :
  Cf Tryz.prog 137 [U p_0, U p_1, I p_2, I p_3, .slice p_4_A p_4.length p_4_c] [RowC p_4_A p_4_c c_u64 tr p_4] (B r) := fun S0 w0 hS hT h => g_regulatorref24_Included F p_0 p_1 p_2 p_3 p_4_A p_4_c p_4 S0 w0 hS hT h.1.r h.1.c r hG
theorem za8 (F : Nat) (p_0 : Int) (p_1 : Int) (p_2 : Int) (p_3 : Int) (p_4_A : Option Addr) (p_4_c : Nat) (p_4 : List Int) (r : Bool) (hG : Gbu F p_0 p_1 p_2 p_3 p_4 = some r) :
  Cf Tryz.prog 37 [U p_0, U p_1, I p_2, I p_3, .slice p_4_A p_4.length p_4_c] [RowC p_4_A p_4_c c_u64 tr p_4] (B r) := fun S0 w0 hS hT h => g_tree_Extended F p_0 p_1 p_2 p_3 p_4_A p_4_c p_4 S0 w0 hS hT h.1.r h.1.c r hG
theorem zaj (F : Nat) (p_0 : Int) (p_1 : Int) (p_2 : Int) (p_3 : Int) (p_4_A : Option Addr) (p_4_c : Nat) (p_4 : List Int) (r : Bool) (hG : Gal F p_0 p_1 p_2 p_3 p_4 = some r) :
  Cf Tryz.prog 42 [U p_0, U p_1, I p_2, I p_3, .slice p_4_A p_4.length p_4_c] [RowC p_4_A p_4_c c_u64 tr p_4] (B r) := fun S0 w0 hS hT h => g_regulatorref24_Extended F p_0 p_1 p_2 p_3 p_4_A p_4_c p_4 S0 w0 hS hT h.1.r h.1.c r hG
section
variable {S0 S : Nat → Prop} {w0 w w' : World} {n : Nat} {K : List (Nat × Value)} {E : List Iz} {Q : Exit → Act → World → Prop} {o : Oper} {Kx : Act → World → Prop}
theorem cln_KSapi_Head (d : Nat) (A : Option Addr) (c : Nat) (l : List Kc) (hr : Fa E (RowC A c Kc.cells tr l)) (hb : l.length * 40 ≤ 140737488355328)
  (h : ∀ A' c', Ge S0 w0 n ((d, .slice A' l.length c') :: K) (.own 27 5 (.slice A' l.length c') l.length (l.flatMap Kc.cells) :: E) Kx)
  (he : ∀ J, sx Tryz.prog (execOp (rho K J) o) [] = some (.enter 143 #[.slice A l.length c], []) := by intro J; kernel_rfl) (hd : o.dst = some d := by kernel_rfl) (hn : Nat.blt d n = true := by kernel_rfl) : Ge S0 w0 n K E (oW Tryz.prog o Q Kx) := by
 have hy : apG 40 ([] : List Kc) l = some l := by unfold apG; rw [if_pos (by simpa using hb)]; rfl
 refine ci d (args := [.slice A l.length c]) (fun E' e' w => ∃ A' c', Rs S0 w0 (.slice A' l.length c') (.own 27 5 (.slice A' l.length c') l.length (l.flatMap Kc.cells) :: E') True e' w) Tryz.func143 rfl rfl ?_ ?_ (by kernel_rfl) he hd hn
 ·cases A with
  | none =>
   intro a w S hK hE; have h0 : l = [] := by
    cases l with
    | nil => rfl
    | cons x l => obtain ⟨b, o, h1, _⟩ := (hr _ _ _ _ hE).r.r (by simp [Kc.cells]); cases h1
   subst h0; refine (?_ : Ge S0 w0 _ _ E _) a w S hK hE; clear hK hE a w S; refine sq ?_; refine rg ?_; refine ra [] f0 [] ?_; refine tN ?_; refine sq ?_; refine sq ?_; refine rg ?_; refine ra [] f0 [(4, B true)] ?_; refine tN ?_; refine ct ?_; refine sq ?_; refine rg ?_; refine ra [] f0 [(2, .slice none 0 0)] ?_; refine tN ?_; refine kR ?_; refine tR ?_; refine on 27 5 ?_; refine ri [] (.slice none 0 0) ?_; exact fun a w S hK hE => ⟨none, 0, rfl, ⟨S, hE⟩, trivial⟩
  | some a0 =>
   refine sq ?_; refine rg ?_; refine ra [] f0 [] ?_; refine tN ?_; refine sq ?_; refine sq ?_; refine rg ?_; refine ra [] f0 [(4, B false)] ?_; refine tN ?_; refine cf ?_; refine kS ?_; refine tN ?_; refine sq ?_; refine rg ?_; refine l1 ?_; refine nw 5 (vs 0) [] 27 fun g => ?_
   refine bo 0 5 0 g 27 [] ?_; refine rn 1 [] f0 [(6, .slice (some a0) l.length c)] ?_; refine l1 ?_; refine ap 0 7 (some ⟨g, 0, none⟩) 0 [] l inf39 (fun _ _ _ _ hE => hr _ _ _ _ (Es.drop hE (List.sublist_cons_self _ _))) hy Kc.one fun A' c' _ => ?_
   refine ra [] f0 [(2, .slice A' l.length c')] ?_; refine tN ?_; refine kR ?_; refine ri [] (.slice A' l.length c') ?_; exact fun a w S hK hE => ⟨A', c', rfl, ⟨S, hE⟩, trivial⟩
 ·rintro e' w ⟨A', c', hJ⟩; exact hJ.go fun _ => h A' c'
end
end Go.Proofs.YtggaodokkcoagaaGreatDoor
