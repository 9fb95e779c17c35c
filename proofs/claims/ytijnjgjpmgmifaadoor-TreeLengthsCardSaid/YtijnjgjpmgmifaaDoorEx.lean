/-
  The walk of tree.Extend.
-/
import Derived.Test.YtijnjgjpmgmifaaDoorIc
namespace Go.Proofs.YtijnjgjpmgmifaaDoor
open Go.RowKit
def extF (l : List Int) (m : Nat) (mark : Bool) : List Int := extT leafF pairF l m mark
theorem extF_left {l : List Int} {m : Nat} {mark : Bool} (h : 2 ≤ l.length ∧ m ≠ l.length) (hm : m ≤ hf l.length) : extF l m mark = extF (l.take (hf l.length)) m mark ++ [rootF (l.drop (hf l.length))] := extT_left h hm
theorem extF_right {l : List Int} {m : Nat} {mark : Bool} (h : 2 ≤ l.length ∧ m ≠ l.length) (hm : ¬m ≤ hf l.length) : extF l m mark = extF (l.drop (hf l.length)) (m - hf l.length) false ++ [rootF (l.take (hf l.length))] := extT_right h hm
theorem extF_end {l : List Int} {m : Nat} {mark : Bool} (h : ¬(2 ≤ l.length ∧ m ≠ l.length)) : extF l m mark = if mark = true then [] else [rootF l] := extT_end h
/-- tree.Extend -/
def extS (l : List Int) (m : Int) : List Int × Int := if checkS l ≠ 0 then ([], checkS l) else if m < 1 ∨ (l.length : Int) < m then ([], 1) else (extF l m.toNat true, 0)
set_option maxHeartbeats 4000000 in
theorem Extend_any (A : Option Addr) (c : Nat) (l : List Int) (i : Int) (w : World) (hc : l.length ≤ c) (h : KS .u64 w A l) :
    Calls Tryd.prog 18 #[.slice A l.length c, .int .i64 i] w fun e w' => ∃ A' c', e = .returned (.tuple #[.slice A' (extS l i).1.length c', .int .i64 (extS l i).2]) ∧ (extS l i).1.length ≤ c' ∧ c' ≤ maxLen ∧ KS .u64 w' A' (extS l i).1 ∧ Below w.heap.size w w' := by
  have HC := hide fun W => check_any A c l W
  unfold extS
  by_cases hk : checkS l = 0
  · obtain ⟨h1, h2⟩ := checkS_ok hk
    rw [if_neg (by simpa using hk)]
    rw [hk] at HC
    clear hk
    by_cases hbad : i < 1 ∨ (l.length : Int) < i
    · rw [if_pos hbad]
      have hcase : decide (i < 1) = true ∨ decide (i < 1) = false ∧ decide ((l.length : Int) < i) = true := by
        simp only [decide_eq_true_eq, decide_eq_false_iff_not]; omega
      clear hbad
      rcases hcase with q1 | ⟨q1, q2⟩
      all_goals
        go_enter Tryd.func18, Tryd.ntmps18
        go_wp2_with (go_at_call 27; refine (HC.out _).mono ?_; rintro e w2 ⟨rfl, rfl⟩)
        go_ret2
        exact ⟨none, 0, rfl, Nat.le_refl _, by simp [maxLen], Rd.nil _ _, Below.refl _ _⟩
    · rw [if_neg hbad]
      obtain ⟨j, rfl⟩ : ∃ j : Nat, i = j := ⟨i.toNat, by omega⟩
      have q1 : decide ((j : Int) < 1) = false := decide_eq_false (by omega)
      have q2 : decide ((l.length : Int) < j) = false := decide_eq_false (by omega)
      have q3 : decide (l.length < j) = false := decide_eq_false (by omega)
      obtain ⟨b, o, rfl, hbl, hcell⟩ := h.at_ (i := 0) (by omega)
      have hjl : j ≤ l.length := by omega
      have hj1 : 1 ≤ j := by omega
      obtain ⟨res, hres⟩ : ∃ r, r = extF l j true := ⟨_, rfl⟩
      obtain ⟨i0, hi, hz0, hz1, hz2⟩ := info_parts infoU
      rw [Int.toNat_natCast, ← hres]
      have HRES := hide hres
      have K := hide h
      clear hbad hcell h hres
      go_enter Tryd.func18, Tryd.ntmps18
      go_wp2_with (go_at_call 27; refine (HC.out _).mono ?_; rintro e w2 ⟨rfl, rfl⟩)
      go_loopw [0, 1, 7, 8, 9, 10] (fun u0 u1 u7 u8 _ _ wr => ∃ (b' o' c' : Nat) (l' : List Int) (i' : Nat) (path : List Int) (mark : Bool), u0 = .slice (some ⟨b', o', none⟩) l'.length c' ∧ l'.length ≤ c' ∧ 1 ≤ l'.length ∧ u1 = .int .i64 i' ∧ 1 ≤ i' ∧ i' ≤ l'.length ∧ u8 = .bool mark ∧ KS .u64 w (some ⟨b', o', none⟩) l' ∧ OwnK .u64 23 wr w.heap.size u7 path ∧ path.length + l'.length ≤ l.length ∧ extF l' i' mark ++ path.reverse = res ∧ Below w.heap.size w wr) (fun u0 _ _ _ _ _ _ => lenV u0)
      case atStart => exact ⟨b, o, c, l, j, [], true, rfl, hc, h1, rfl, hj1, hjl, rfl, K.out, OwnK.nil, by simp, by simp [HRES.out], Below.refl _ _⟩
      case round =>
        clear K HRES hbl hc HC
        rename World => wo
        obtain ⟨b', o', c', l', i', path, mark, rfl, hlc, hl1, rfl, hi1, hil, rfl, hks, ho, hpl, hpath, hb⟩ := hrel
        by_cases hn : i' < l'.length
        · have d1 : decide ((i' : Int) < (l'.length : Int)) = true := decide_eq_true (by omega)
          have d2 : decide (i' < l'.length) = true := decide_eq_true (by omega)
          have hn2 : 2 ≤ l'.length := by omega
          obtain ⟨s1, s2, s3⟩ := hf_spec hn2
          have PP := hide fun W => parts_any b' o' c' l'.length W hn2 (by omega) hlc
          have K1 := hide (KS.pre hks (hf l'.length))
          have K2 := hide (KS.shift hks (n := hf l'.length) (by omega))
          have HB := hide hb
          have HO := hide ho
          have HL := hide (@extF_left l' i' mark ⟨hn2, by omega⟩)
          have HR := hide (@extF_right l' i' mark ⟨hn2, by omega⟩)
          have HP := hide hpath
          have R1 := hide fun W (s : KS .u64 W (some ⟨b', o', none⟩) (l'.take (hf l'.length))) => root_any (hf l'.length) (some ⟨b', o', none⟩) (hf l'.length) _ W (by simp; omega) s1 (by omega) (Nat.le_refl _) s
          have R2 := hide fun W (s : KS .u64 W (some ⟨b', o' + hf l'.length, none⟩) (l'.drop (hf l'.length))) => root_any (l'.length - hf l'.length) (some ⟨b', o' + hf l'.length, none⟩) (l'.length - hf l'.length) _ W (by simp) (by omega) (by omega) (Nat.le_refl _) s
          clear hks hb ho hpath hlc
          obtain ⟨k, hk⟩ : ∃ k, k = hf l'.length := ⟨_, rfl⟩
          rw [← hk] at PP s1 s2 s3 K1 K2 HL HR R1 R2
          clear hk
          by_cases hik : i' ≤ k
          · have d3 : decide ((i' : Int) ≤ (k : Int)) = true := decide_eq_true (by omega)
            have d4 : decide (i' ≤ k) = true := decide_eq_true (by omega)
            have HP2 := hide (show extF (l'.take k) i' mark ++ (path ++ [rootF (l'.drop k)]).reverse = res by rw [← HP.out, HL.out hik]; simp)
            clear HL HR R1 HP
            go_wp2_with (first
              | (go_at_call 32; refine (PP.out _).mono ?_; rintro e w2 ⟨rfl, hb⟩; have HB := hide (HB.out.trans (hb.mono HB.out.size)); have HO := hide (HO.out.below hb); clear hb)
              | (go_at_call 28; with_reducible refine (R2.out _ (K2.out.then_ HB.out)).mono ?_; rintro e w3 ⟨rfl, hb⟩; have HB := hide (HB.out.trans (hb.mono HB.out.size)); have HO := hide (HO.out.below hb); clear hb)
              | (at_builtin; refine wpList_append_rd _ rfl _ _ 22 rfl w.heap.size 23 i0 _ 1 8 Tryd.underlying22 hi hz0 hz1 hz2 rfl (by decide) _ _ _ rfl (OwnK.below HO.out ((Below.refl _ _).alloc (Nat.le_refl _) _)) (some ⟨w3.heap.size, 0, none⟩) 1 1 [.int .u64 (rootF (l'.drop k))] rfl rfl (Rd.new_row _ _ _) (by simp [Value.oneCell']) (by simp only [maxLen]; omega) (by omega) (by have := HB.out.size; simp; omega) ?_; intro v' w6 hown' hgrow _; have HB6 := hide ((HB.out.alloc HB.out.size _).grown hgrow (by have := HB.out.size; simp; omega) (fun g hg => (HO.out.lt g hg).1)); have HO6 := hide (OwnK.snoc hown' rfl rfl); clear hown' hgrow))
            go_roundw
            case rel => exact ⟨b', o', k, l'.take k, i', path ++ [rootF (l'.drop k)], mark, by rw [List.length_take, Nat.min_eq_left (by omega)], by simp; omega, by simp; omega, rfl, hi1, by rw [List.length_take, Nat.min_eq_left (by omega)]; exact hik, rfl, K1.out, HO6.out, by simp; omega, HP2.out, HB6.out⟩
            case measure => simp [lenV]; omega
          · have d3 : decide ((i' : Int) ≤ (k : Int)) = false := decide_eq_false (by omega)
            have d4 : decide (i' ≤ k) = false := decide_eq_false (by omega)
            have HP2 := hide (show extF (l'.drop k) (i' - k) false ++ (path ++ [rootF (l'.take k)]).reverse = res by rw [← HP.out, HR.out hik]; simp)
            have p1 : (0 : Int) ≤ (i' : Int) - k := by omega
            have p2 : (i' : Int) - k ≤ 10000 := by omega
            have p3 := hide (show ((i' - k : Nat) : Int) = (i' : Int) - k by omega)
            clear HL HR R2 HP
            go_wp2_with (first
              | (go_at_call 32; refine (PP.out _).mono ?_; rintro e w2 ⟨rfl, hb⟩; have HB := hide (HB.out.trans (hb.mono HB.out.size)); have HO := hide (HO.out.below hb); clear hb)
              | (go_at_call 28; with_reducible refine (R1.out _ (K1.out.then_ HB.out)).mono ?_; rintro e w3 ⟨rfl, hb⟩; have HB := hide (HB.out.trans (hb.mono HB.out.size)); have HO := hide (HO.out.below hb); clear hb)
              | (at_builtin; refine wpList_append_rd _ rfl _ _ 22 rfl w.heap.size 23 i0 _ 1 8 Tryd.underlying22 hi hz0 hz1 hz2 rfl (by decide) _ _ _ rfl (OwnK.below HO.out ((Below.refl _ _).alloc (Nat.le_refl _) _)) (some ⟨w3.heap.size, 0, none⟩) 1 1 [.int .u64 (rootF (l'.take k))] rfl rfl (Rd.new_row _ _ _) (by simp [Value.oneCell']) (by simp only [maxLen]; omega) (by omega) (by have := HB.out.size; simp; omega) ?_; intro v' w6 hown' hgrow _; have HB6 := hide ((HB.out.alloc HB.out.size _).grown hgrow (by have := HB.out.size; simp; omega) (fun g hg => (HO.out.lt g hg).1)); have HO6 := hide (OwnK.snoc hown' rfl rfl); clear hown' hgrow))
            go_roundw
            case rel => exact ⟨b', o' + k, l'.length - k, l'.drop k, i' - k, path ++ [rootF (l'.take k)], false, by rw [List.length_drop], by simp, by simp; omega, by rw [p3.out], by omega, by simp; omega, rfl, K2.out, HO6.out, by simp; omega, HP2.out, HB6.out⟩
            case measure => simp [lenV]; omega
        · have d1 : decide ((i' : Int) < (l'.length : Int)) = false := decide_eq_false (by omega)
          have d2 : decide (i' < l'.length) = false := decide_eq_false (by omega)
          rw [extF_end (by omega)] at hpath
          have HB := hide hb
          cases mark
          · rw [if_neg (by simp)] at hpath
            obtain ⟨pl, hpp⟩ : ∃ pl, pl = path ++ [rootF l'] := ⟨_, rfl⟩
            have HE := hide (show pl.reverse = res by rw [← hpath, hpp]; simp)
            have HPL := hide hpp
            have REV := hide (fun A7 c7 W (s : OwnK .u64 23 W w.heap.size (.slice A7 pl.length c7) pl) => revK_any w.heap.size A7 pl.length c7 pl W (by rw [hpp]; simp; omega) s)
            have HO := hide ho
            have K0 := hide hks
            have R0 := hide fun W (s : KS .u64 W (some ⟨b', o', none⟩) l') => root_any l'.length (some ⟨b', o', none⟩) c' l' W rfl hl1 (by omega) hlc s
            clear hn hpath hks ho hb hpp
            go_wp2_with (first
              | (go_at_call 28; refine (R0.out _ (K0.out.then_ HB.out)).mono ?_; rintro e w3 ⟨rfl, hb⟩; have HB := hide (HB.out.trans (hb.mono HB.out.size)); have HO := hide (HO.out.below hb); clear hb)
              | (at_builtin; refine wpList_append_rd _ rfl _ _ 22 rfl w.heap.size 23 i0 _ 1 8 Tryd.underlying22 hi hz0 hz1 hz2 rfl (by decide) _ _ _ rfl (OwnK.below HO.out ((Below.refl _ _).alloc (Nat.le_refl _) _)) (some ⟨w3.heap.size, 0, none⟩) 1 1 [.int .u64 (rootF l')] rfl rfl (Rd.new_row _ _ _) (by simp [Value.oneCell']) (by simp only [maxLen]; omega) (by omega) (by have := HB.out.size; simp; omega) ?_; intro v' w6 hown' hgrow _; have HB := hide ((HB.out.alloc HB.out.size _).grown hgrow (by have := HB.out.size; simp; omega) (fun g hg => (HO.out.lt g hg).1)); have ho6 := OwnK.snoc hown' rfl rfl; rw [← HPL.out] at ho6; clear hown' hgrow HO; obtain ⟨A7, c7, rfl, hl7, hm7, _⟩ := OwnK.form ho6; have HO := hide ho6; clear ho6)
              | (go_at_call 33; with_reducible refine (REV.out A7 c7 _ HO.out).mono ?_; rintro e w2 ⟨⟨_, rfl⟩, ho2, row, hg2, hr2⟩; have HO := hide ho2; have HB := hide (HB.out.grown hg2 HB.out.size hr2); clear ho2 hg2 hr2))
            go_ret2
            obtain ⟨A8, c8, h8, hl8, hm8, hk8⟩ := HO.out.form
            injection h8 with h8a h8b h8c
            subst h8a h8c
            rw [HE.out] at hl8 hk8
            exact ⟨A7, c7, by rw [← HE.out, List.length_reverse]; rfl, hl8, hm8, hk8, HB.out⟩
          · rw [if_pos rfl, List.nil_append] at hpath
            subst hpath
            obtain ⟨A7, c7, rfl, hl7, hm7, hk7⟩ := ho.form
            have REV := hide (fun W (s : OwnK .u64 23 W w.heap.size (.slice A7 path.length c7) path) => revK_any w.heap.size A7 path.length c7 path W (by omega) s)
            have HO := hide ho
            clear hn hk7 ho hb hks
            go_wp2_with (go_at_call 33; refine (REV.out _ HO.out).mono ?_; rintro e w2 ⟨⟨_, rfl⟩, ho2, row, hg2, hr2⟩; have HO := hide ho2; have HB := hide (HB.out.grown hg2 HB.out.size hr2); clear ho2 hg2 hr2)
            go_ret2
            obtain ⟨A8, c8, h8, hl8, hm8, hk8⟩ := HO.out.form
            injection h8 with h8a h8b h8c
            subst h8a h8c
            exact ⟨A7, c7, by rw [List.length_reverse]; rfl, hl8, hm8, hk8, HB.out⟩
  · rw [if_pos hk]
    obtain ⟨x, hx⟩ : ∃ x, x = checkS l := ⟨_, rfl⟩
    rw [← hx] at HC hk ⊢
    have q : (x != 0) = true := by simp [hk]
    clear hk hx
    go_enter Tryd.func18, Tryd.ntmps18
    go_wp2_with (go_at_call 27; refine (HC.out _).mono ?_; rintro e w2 ⟨rfl, rfl⟩)
    go_ret2
    exact ⟨none, 0, rfl, Nat.le_refl _, by simp [maxLen], Rd.nil _ _, Below.refl _ _⟩
end Go.Proofs.YtijnjgjpmgmifaaDoor
