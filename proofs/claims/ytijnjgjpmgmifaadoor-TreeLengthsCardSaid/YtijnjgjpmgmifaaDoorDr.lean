/-
  The walks of the reference of digests, at what the hash trees need.
-/
import Derived.Test.YtijnjgjpmgmifaaDoorDp
import Derived.Laws.IdiomStrings
namespace Go.Proofs.YtijnjgjpmgmifaaDoor
open Go.RowKit
set_option maxHeartbeats 1000000 in
theorem rSum_any (A : Option Addr) (c : Nat) (l : List Int) (w : World) (hn : l.length ≤ 9223372036854775807) (h : KS .u8 w A l) :
    Calls Tryd.prog 49 #[.slice A l.length c] w fun e w' => e = .returned (.int .u64 (sumB l)) ∧ w = w' := by
  go_enter Tryd.func49, Tryd.ntmps49
  go_wp2
  go_loopw [3, 4] (fun s i wr => ∃ k : Nat, k ≤ l.length ∧ i = .int .i64 k ∧ s = .int .u64 ((l.take k).foldl sumF 14695981039346656037) ∧ w = wr) (fun _ i _ => l.length - (intOf i).toNat)
  case atStart => exact ⟨0, Nat.zero_le _, rfl, rfl, rfl⟩
  case round =>
    obtain ⟨k, hk, rfl, rfl, rfl⟩ := hrel
    by_cases hlt : k < l.length
    · obtain ⟨b, o, rfl, hbl, hc⟩ := h.at_ hlt
      have c0 := hc k hlt
      clear hc
      have hs := foldl_take1 sumF 14695981039346656037 l k hlt
      have HS := hide hs
      clear hs
      go_wp2
      go_roundw
      case rel => exact ⟨k + 1, by omega, by go_num, by rw [HS.out]; rfl, by trivial⟩
      case measure => simp [intOf]; omega
    · have hr : l.take k = l := List.take_of_length_le (by omega)
      rw [hr]
      clear hr
      go_wp2
      go_ret
      exact ⟨rfl, rfl⟩
set_option maxHeartbeats 4000000 in
theorem eight_any (n : Int) (w : World) : Calls Tryd.prog 47 #[.int .u64 n] w fun e w' => ∃ v, e = .returned v ∧ OwnK .u8 5 w' w.heap.size v (octL n) ∧ Below w.heap.size w w' := by
  obtain ⟨i0, hi, hz0, hz1, hz2⟩ := info_parts infoB
  go_enter Tryd.func47, Tryd.ntmps47
  go_wp2
  go_loopw [3, 4] (fun b i wr => ∃ k : Nat, k ≤ 8 ∧ i = .int .i64 (56 - 8 * (k : Int)) ∧ OwnK .u8 5 wr w.heap.size b ((octL n).take k) ∧ Below w.heap.size w wr) (fun _ i _ => (intOf i + 8).toNat)
  case atStart => exact ⟨0, by omega, rfl, OwnK.nil, Below.refl _ _⟩
  case round =>
    obtain ⟨k, hk, rfl, ho, hb⟩ := hrel
    have HO := hide ho
    have HL := hide hb
    have hs := hb.size
    clear ho hb
    rcases (show k = 0 ∨ k = 1 ∨ k = 2 ∨ k = 3 ∨ k = 4 ∨ k = 5 ∨ k = 6 ∨ k = 7 ∨ k = 8 by omega) with rfl | rfl | rfl | rfl | rfl | rfl | rfl | rfl | rfl
    · go_wp2_with (at_builtin; refine wpList_append_rd _ rfl _ _ 66 rfl w.heap.size 5 i0 _ 1 1 Tryd.underlying66 hi hz0 hz1 hz2 rfl (by decide) _ _ _ rfl (OwnK.below HO.out ((Below.refl _ _).alloc (Nat.le_refl _) _)) (some ⟨wr.heap.size, 0, none⟩) 1 1 [.int .u8 (oct n 0)] rfl rfl (Rd.new_row _ _ _) (by simp [Value.oneCell']) (by simp [octL, maxLen]) (by simp [octL]) (by simp; omega) ?_; intro v' w6 hown' hgrow _)
      have b6 : Below w.heap.size w w6 := (HL.out.alloc hs _).grown hgrow (by simp; omega) (fun g hg => (HO.out.lt g hg).1)
      go_wp2
      go_roundw
      case rel => exact ⟨1, by omega, rfl, by simpa [OwnK, octL] using hown', b6⟩
      case measure => simp [intOf]
    · go_wp2_with (at_builtin; refine wpList_append_rd _ rfl _ _ 66 rfl w.heap.size 5 i0 _ 1 1 Tryd.underlying66 hi hz0 hz1 hz2 rfl (by decide) _ _ _ rfl (OwnK.below HO.out ((Below.refl _ _).alloc (Nat.le_refl _) _)) (some ⟨wr.heap.size, 0, none⟩) 1 1 [.int .u8 (oct n 1)] rfl rfl (Rd.new_row _ _ _) (by simp [Value.oneCell']) (by simp [octL, maxLen]) (by simp [octL]) (by simp; omega) ?_; intro v' w6 hown' hgrow _)
      have b6 : Below w.heap.size w w6 := (HL.out.alloc hs _).grown hgrow (by simp; omega) (fun g hg => (HO.out.lt g hg).1)
      go_wp2
      go_roundw
      case rel => exact ⟨2, by omega, rfl, by simpa [OwnK, octL] using hown', b6⟩
      case measure => simp [intOf]
    · go_wp2_with (at_builtin; refine wpList_append_rd _ rfl _ _ 66 rfl w.heap.size 5 i0 _ 1 1 Tryd.underlying66 hi hz0 hz1 hz2 rfl (by decide) _ _ _ rfl (OwnK.below HO.out ((Below.refl _ _).alloc (Nat.le_refl _) _)) (some ⟨wr.heap.size, 0, none⟩) 1 1 [.int .u8 (oct n 2)] rfl rfl (Rd.new_row _ _ _) (by simp [Value.oneCell']) (by simp [octL, maxLen]) (by simp [octL]) (by simp; omega) ?_; intro v' w6 hown' hgrow _)
      have b6 : Below w.heap.size w w6 := (HL.out.alloc hs _).grown hgrow (by simp; omega) (fun g hg => (HO.out.lt g hg).1)
      go_wp2
      go_roundw
      case rel => exact ⟨3, by omega, rfl, by simpa [OwnK, octL] using hown', b6⟩
      case measure => simp [intOf]
    · go_wp2_with (at_builtin; refine wpList_append_rd _ rfl _ _ 66 rfl w.heap.size 5 i0 _ 1 1 Tryd.underlying66 hi hz0 hz1 hz2 rfl (by decide) _ _ _ rfl (OwnK.below HO.out ((Below.refl _ _).alloc (Nat.le_refl _) _)) (some ⟨wr.heap.size, 0, none⟩) 1 1 [.int .u8 (oct n 3)] rfl rfl (Rd.new_row _ _ _) (by simp [Value.oneCell']) (by simp [octL, maxLen]) (by simp [octL]) (by simp; omega) ?_; intro v' w6 hown' hgrow _)
      have b6 : Below w.heap.size w w6 := (HL.out.alloc hs _).grown hgrow (by simp; omega) (fun g hg => (HO.out.lt g hg).1)
      go_wp2
      go_roundw
      case rel => exact ⟨4, by omega, rfl, by simpa [OwnK, octL] using hown', b6⟩
      case measure => simp [intOf]
    · go_wp2_with (at_builtin; refine wpList_append_rd _ rfl _ _ 66 rfl w.heap.size 5 i0 _ 1 1 Tryd.underlying66 hi hz0 hz1 hz2 rfl (by decide) _ _ _ rfl (OwnK.below HO.out ((Below.refl _ _).alloc (Nat.le_refl _) _)) (some ⟨wr.heap.size, 0, none⟩) 1 1 [.int .u8 (oct n 4)] rfl rfl (Rd.new_row _ _ _) (by simp [Value.oneCell']) (by simp [octL, maxLen]) (by simp [octL]) (by simp; omega) ?_; intro v' w6 hown' hgrow _)
      have b6 : Below w.heap.size w w6 := (HL.out.alloc hs _).grown hgrow (by simp; omega) (fun g hg => (HO.out.lt g hg).1)
      go_wp2
      go_roundw
      case rel => exact ⟨5, by omega, rfl, by simpa [OwnK, octL] using hown', b6⟩
      case measure => simp [intOf]
    · go_wp2_with (at_builtin; refine wpList_append_rd _ rfl _ _ 66 rfl w.heap.size 5 i0 _ 1 1 Tryd.underlying66 hi hz0 hz1 hz2 rfl (by decide) _ _ _ rfl (OwnK.below HO.out ((Below.refl _ _).alloc (Nat.le_refl _) _)) (some ⟨wr.heap.size, 0, none⟩) 1 1 [.int .u8 (oct n 5)] rfl rfl (Rd.new_row _ _ _) (by simp [Value.oneCell']) (by simp [octL, maxLen]) (by simp [octL]) (by simp; omega) ?_; intro v' w6 hown' hgrow _)
      have b6 : Below w.heap.size w w6 := (HL.out.alloc hs _).grown hgrow (by simp; omega) (fun g hg => (HO.out.lt g hg).1)
      go_wp2
      go_roundw
      case rel => exact ⟨6, by omega, rfl, by simpa [OwnK, octL] using hown', b6⟩
      case measure => simp [intOf]
    · go_wp2_with (at_builtin; refine wpList_append_rd _ rfl _ _ 66 rfl w.heap.size 5 i0 _ 1 1 Tryd.underlying66 hi hz0 hz1 hz2 rfl (by decide) _ _ _ rfl (OwnK.below HO.out ((Below.refl _ _).alloc (Nat.le_refl _) _)) (some ⟨wr.heap.size, 0, none⟩) 1 1 [.int .u8 (oct n 6)] rfl rfl (Rd.new_row _ _ _) (by simp [Value.oneCell']) (by simp [octL, maxLen]) (by simp [octL]) (by simp; omega) ?_; intro v' w6 hown' hgrow _)
      have b6 : Below w.heap.size w w6 := (HL.out.alloc hs _).grown hgrow (by simp; omega) (fun g hg => (HO.out.lt g hg).1)
      go_wp2
      go_roundw
      case rel => exact ⟨7, by omega, rfl, by simpa [OwnK, octL] using hown', b6⟩
      case measure => simp [intOf]
    · go_wp2_with (at_builtin; refine wpList_append_rd _ rfl _ _ 66 rfl w.heap.size 5 i0 _ 1 1 Tryd.underlying66 hi hz0 hz1 hz2 rfl (by decide) _ _ _ rfl (OwnK.below HO.out ((Below.refl _ _).alloc (Nat.le_refl _) _)) (some ⟨wr.heap.size, 0, none⟩) 1 1 [.int .u8 (n % 256)] rfl rfl (Rd.new_row _ _ _) (by simp [Value.oneCell']) (by simp [octL, maxLen]) (by simp [octL]) (by simp; omega) ?_; intro v' w6 hown' hgrow _)
      have b6 : Below w.heap.size w w6 := (HL.out.alloc hs _).grown hgrow (by simp; omega) (fun g hg => (HO.out.lt g hg).1)
      go_wp2
      go_roundw
      case rel => exact ⟨8, by omega, rfl, by simpa [OwnK, octL, show oct n 7 = n % 256 by unfold oct; simp] using hown', b6⟩
      case measure => simp [intOf]
    · go_wp2
      go_ret
      exact ⟨_, rfl, by simpa [octL] using HO.out, HL.out⟩
theorem decimal0 (w : World) : Calls Tryd.prog 55 #[.int .i64 0] w fun e w' => e = .returned (.string ⟨#[48]⟩) ∧ Below w.heap.size w w' := by
  have hcv := run_convert_bytes_back (P := Tryd.prog) (w.alloc (.cells #[.int .u8 48] 5)) 66 9 5 ⟨w.heap.size, 0, none⟩ 1 [48] Tryd.underlying66 Tryd.underlying5 Tryd.underlying9 (fun j hj => by
    obtain rfl : j = 0 := by simpa using hj
    exact cell_at w _ _ _ 0 rfl)
  simp only [List.length_cons, List.length_nil, Nat.zero_add] at hcv
  go_enter Tryd.func55, Tryd.ntmps55
  go_wp2
  go_ret
  exact ⟨rfl, (Below.refl _ _).alloc (Nat.le_refl _) _⟩
set_option maxHeartbeats 1000000 in
theorem rText0 (B : Option Addr) (d : Nat) (w : World) (h' : KS .i64 w B [0]) :
    Calls Tryd.prog 48 #[.slice B 1 d] w fun e w' => ∃ v, e = .returned v ∧ OwnK .u8 5 w' w.heap.size v [48, 32] ∧ Below w.heap.size w w' := by
  obtain ⟨i0, hi, hz0, hz1, hz2⟩ := info_parts infoB
  obtain ⟨b, o, rfl, hbl, hc⟩ := h'.at_ (i := 0) (by simp)
  have c0 := hc 0 (by simp)
  simp only [Nat.add_zero, List.getElem_cons_zero] at c0
  clear hc
  go_enter Tryd.func48, Tryd.ntmps48
  go_wp2
  go_loopw [3, 4] (fun u i wr => (i = .int .i64 0 ∧ u = .slice none 0 0 ∧ wr = w) ∨ (i = .int .i64 1 ∧ OwnK .u8 5 wr w.heap.size u [48, 32] ∧ Below w.heap.size w wr)) (fun _ i _ => 1 - (intOf i).toNat)
  case atStart => exact .inl ⟨rfl, rfl, rfl⟩
  case round =>
    rcases hrel with ⟨rfl, rfl, rfl⟩ | ⟨rfl, ho, hb⟩
    · go_wp2_with (first
        | (go_at_call 55; refine (decimal0 _).mono ?_; rintro e w2 ⟨rfl, hb2⟩; have HB := hide hb2; have hs2 := hb2.size; clear hb2)
        | (at_builtin; refine wpList_append_src_grows _ rfl _ _ 66 9 rfl 5 i0 _ 1 1 Tryd.underlying66 hi hz0 hz1 hz2 rfl none 0 0 rfl [] rfl (Rd.nil _ _) (.string ⟨#[48]⟩) 1 [.int .u8 48] rfl (Src.ofString _ Tryd.underlying9 ⟨#[48]⟩) (by omega) (by simp [maxLen]) (by omega) ?_; intro v3 w3 hown3 hgrow3; have HO := hide (show OwnK .u8 5 w3 w2.heap.size v3 [48] from hown3); have HB := hide (HB.out.trans ((Below.of_grown hgrow3).mono hs2)); have hs3 := HB.out.size; have hs23 := (Below.of_grown hgrow3).size; clear hown3 hgrow3)
        | (at_builtin; refine wpList_append_rd _ rfl _ _ 66 rfl w2.heap.size 5 i0 _ 1 1 Tryd.underlying66 hi hz0 hz1 hz2 rfl (by decide) _ _ _ rfl (OwnK.below HO.out ((Below.refl _ _).alloc (Nat.le_refl _) _)) (some ⟨w3.heap.size, 0, none⟩) 1 1 [.int .u8 32] rfl rfl (Rd.new_row _ _ _) (by simp [Value.oneCell']) (by simp [maxLen]) (by simp) (by simp; omega) ?_; intro v' w6 hown' hgrow _))
      have b6 : Below wr.heap.size wr w6 := (HB.out.alloc hs3 _).grown hgrow (by simp; omega) (fun g hg => by have := (HO.out.lt g hg).1; omega)
      have ho6 : OwnK .u8 5 w6 wr.heap.size v' [48, 32] := by
        have h6 : w6.ownsRow w2.heap.size 5 1 v' 2 [.int .u8 48, .int .u8 32] := by simpa using hown'
        refine ⟨rfl, ?_⟩
        rcases h6.2 with h2 | ⟨g, cap, cur, hv, hg, r⟩
        · exact .inl h2
        · exact .inr ⟨g, cap, cur, hv, by omega, r⟩
      have H6 := hide ho6
      clear hown' hgrow ho6
      go_wp2
      go_roundw
      case rel => exact .inr ⟨rfl, H6.out, b6⟩
      case measure => simp [intOf]
    · have HO := hide ho
      have HB := hide hb
      clear ho hb
      go_wp2
      go_ret
      exact ⟨_, rfl, HO.out, HB.out⟩
set_option maxHeartbeats 1000000 in
theorem rNext0 (n : Int) (B : Option Addr) (d : Nat) (w : World) (h' : KS .i64 w B [0]) :
    Calls Tryd.prog 31 #[.int .u64 n, .slice B 1 d] w fun e w' => e = .returned (.int .u64 (leafF n)) ∧ Below w.heap.size w w' := by
  obtain ⟨i0, hi, hz0, hz1, hz2⟩ := info_parts infoB
  have HI := hide h'
  have HS := hide fun A c l W hn s => rSum_any A c l W hn s
  clear h'
  go_enter Tryd.func31, Tryd.ntmps31
  go_wp2_with (first
    | (go_at_call 47; refine (eight_any n _).mono ?_; rintro e w2 ⟨v2, rfl, ho2, hb2⟩; have O2 := hide ho2; have B2 := hide hb2; have I2 := hide (HI.out.then_ hb2); clear ho2 hb2)
    | (go_at_call 48; refine (rText0 B d _ I2.out).mono ?_; rintro e w3 ⟨v3, rfl, ho3, hb3⟩; have O3 := hide (OwnK.below O2.out hb3); have B3 := hide (B2.out.trans (hb3.mono B2.out.size)); obtain ⟨A3, c3, rfl, hl3, hm3, hk3⟩ := ho3.form; have K3 := hide hk3; clear ho3 hb3 hk3)
    | (at_builtin; refine wpList_append_rd _ rfl _ _ 66 rfl w.heap.size 5 i0 _ 1 1 Tryd.underlying66 hi hz0 hz1 hz2 rfl (by decide) _ _ _ rfl O3.out A3 2 c3 [.int .u8 48, .int .u8 32] rfl rfl K3.out (by simp [Value.oneCell']) (by simp [maxLen, octL]) (by simp [octL]) B3.out.size ?_; intro v6 w6 hown6 hgrow6 _; have O6 := hide (show OwnK .u8 5 w6 w.heap.size v6 (octL n ++ [48] ++ [32]) from hown6); have B6 := hide (B3.out.grown hgrow6 B3.out.size (fun g hg => (O3.out.lt g hg).1)); obtain ⟨A6, c6, rfl, hl6, hm6, hk6⟩ := O6.out.form; have K6 := hide hk6; clear hown6 hgrow6 hk6)
    | (go_at_call 49; refine (HS.out A6 c6 _ _ (by simp [octL]) K6.out).mono ?_; rintro e w4 ⟨rfl, rfl⟩))
  go_ret
  exact ⟨rfl, B6.out⟩
theorem rLeaf_any (n : Int) (w : World) : Calls Tryd.prog 14 #[.int .u64 n] w fun e w' => e = .returned (.int .u64 (leafF n)) ∧ Below w.heap.size w w' := by
  have K := hide (show KS .i64 (w.alloc (.cells #[.int .i64 0] 3)) (some ⟨w.heap.size, 0, none⟩) [0] from Rd.new_row w 3 #[.int .i64 0])
  go_enter Tryd.func14, Tryd.ntmps14
  go_wp2_with (go_at_call 31; refine (rNext0 n _ _ _ K.out).mono ?_; rintro e w2 ⟨rfl, hb⟩)
  go_ret
  exact ⟨rfl, ((Below.refl w.heap.size w).alloc (Nat.le_refl _) _).trans (hb.mono (by simp))⟩
end Go.Proofs.YtijnjgjpmgmifaaDoor
