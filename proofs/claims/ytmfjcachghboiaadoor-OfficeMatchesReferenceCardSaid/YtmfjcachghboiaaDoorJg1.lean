/-
  Texts joined: Dr, Tr1, Tr2, Tr3, Ta, RevV0, Wk, In, Kr, InsK, Ic, Ex, Ed, Ee, Ra, Rl, Ri, Rx, Ht, Dy, Dz, Ot.
-/
import Derived.Laws.IdiomStrings
import Derived.Laws.BitsLemmas
import Derived.Laws.Bits64
import Derived.Test.YtmfjcachghboiaaDoorProg
import Derived.Deep.RegionLaw
import Derived.Deep.RegionHeld3
import Derived.Test.YtmfjcachghboiaaDoorJg0
namespace Go.Proofs.YtmfjcachghboiaaDoor
open Go.RowKit
set_option maxHeartbeats 1000000 in
theorem rSum_any (A : Option Addr) (c : Nat) (l : List Int) (w : World) (hn : l.length ≤ 9223372036854775807) (h : KS .u8 w A l) :
  Calls Tryd.prog 74 #[.slice A l.length c] w fun e w' => e = .returned (.int .u64 (sumB l)) ∧ w = w' := by
 go_enter Tryd.func74, Tryd.ntmps74
 go_wp2
 go_loopw [3, 4] (fun s i wr => ∃ k : Nat, k ≤ l.length ∧ i = .int .i64 k ∧ s = .int .u64 ((l.take k).foldl sumF 14695981039346656037) ∧ w = wr) (fun _ i _ => l.length - (intOf i).toNat)
 case atStart => exact ⟨0, Nat.zero_le _, rfl, rfl, rfl⟩
 case round =>
  obtain ⟨k, hk, rfl, rfl, rfl⟩ := hrel
  by_cases hlt : k < l.length
  ·obtain ⟨b, o, rfl, hbl, hc⟩ := h.at_ hlt; have c0 := hc k hlt; clear hc; have hs := foldl_take1 sumF 14695981039346656037 l k hlt; have HS := hide hs; clear hs
   go_wp2
   go_roundw
   case rel => exact ⟨k + 1, by omega, by go_num, by rw [HS.out]; rfl, by trivial⟩
   case measure => simp [intOf]; omega
  ·have hr : l.take k = l := List.take_of_length_le (by omega); rw [hr]; clear hr
   go_wp2
   go_ret
   exact ⟨rfl, rfl⟩
set_option maxHeartbeats 4000000 in
theorem eight_any (n : Int) (w : World) : Calls Tryd.prog 72 #[.int .u64 n] w fun e w' => ∃ v, e = .returned v ∧ OwnK .u8 5 w' w.heap.size v (octL n) ∧ Below w.heap.size w w' := by
 obtain ⟨i0, hi, hz0, hz1, hz2⟩ := info_parts infoB
 go_enter Tryd.func72, Tryd.ntmps72
 go_wp2
 go_loopw [3, 4] (fun b i wr => ∃ k : Nat, k ≤ 8 ∧ i = .int .i64 (56 - 8 * (k : Int)) ∧ OwnK .u8 5 wr w.heap.size b ((octL n).take k) ∧ Below w.heap.size w wr) (fun _ i _ => (intOf i + 8).toNat)
 case atStart => exact ⟨0, by omega, rfl, OwnK.nil, Below.refl _ _⟩
 case round =>
  obtain ⟨k, hk, rfl, ho, hb⟩ := hrel; have HO := hide ho; have HL := hide hb; have hs := hb.size; clear ho hb; rcases (show k = 0 ∨ k = 1 ∨ k = 2 ∨ k = 3 ∨ k = 4 ∨ k = 5 ∨ k = 6 ∨ k = 7 ∨ k = 8 by omega) with rfl | rfl | rfl | rfl | rfl | rfl | rfl | rfl | rfl
  ·go_wp2_with (at_builtin; refine wpList_append_rd _ rfl _ _ 102 rfl w.heap.size 5 i0 _ 1 1 Tryd.underlying102 hi hz0 hz1 hz2 rfl (by decide) _ _ _ rfl (OwnK.below HO.out ((Below.refl _ _).alloc (Nat.le_refl _) _)) (some ⟨wr.heap.size, 0, none⟩) 1 1 [.int .u8 (oct n 0)] rfl rfl (Rd.new_row _ _ _) (by simp [Value.oneCell']) (by simp [octL, maxLen]) (by simp [octL]) (by simp; omega) ?_; intro v' w6 hown' hgrow _)
   have b6 : Below w.heap.size w w6 := (HL.out.alloc hs _).grown hgrow (by simp; omega) (fun g hg => (HO.out.lt g hg).1)
   go_wp2
   go_roundw
   case rel => exact ⟨1, by omega, rfl, by simpa [OwnK, octL] using hown', b6⟩
   case measure => simp [intOf]
  ·go_wp2_with (at_builtin; refine wpList_append_rd _ rfl _ _ 102 rfl w.heap.size 5 i0 _ 1 1 Tryd.underlying102 hi hz0 hz1 hz2 rfl (by decide) _ _ _ rfl (OwnK.below HO.out ((Below.refl _ _).alloc (Nat.le_refl _) _)) (some ⟨wr.heap.size, 0, none⟩) 1 1 [.int .u8 (oct n 1)] rfl rfl (Rd.new_row _ _ _) (by simp [Value.oneCell']) (by simp [octL, maxLen]) (by simp [octL]) (by simp; omega) ?_; intro v' w6 hown' hgrow _)
   have b6 : Below w.heap.size w w6 := (HL.out.alloc hs _).grown hgrow (by simp; omega) (fun g hg => (HO.out.lt g hg).1)
   go_wp2
   go_roundw
   case rel => exact ⟨2, by omega, rfl, by simpa [OwnK, octL] using hown', b6⟩
   case measure => simp [intOf]
  ·go_wp2_with (at_builtin; refine wpList_append_rd _ rfl _ _ 102 rfl w.heap.size 5 i0 _ 1 1 Tryd.underlying102 hi hz0 hz1 hz2 rfl (by decide) _ _ _ rfl (OwnK.below HO.out ((Below.refl _ _).alloc (Nat.le_refl _) _)) (some ⟨wr.heap.size, 0, none⟩) 1 1 [.int .u8 (oct n 2)] rfl rfl (Rd.new_row _ _ _) (by simp [Value.oneCell']) (by simp [octL, maxLen]) (by simp [octL]) (by simp; omega) ?_; intro v' w6 hown' hgrow _)
   have b6 : Below w.heap.size w w6 := (HL.out.alloc hs _).grown hgrow (by simp; omega) (fun g hg => (HO.out.lt g hg).1)
   go_wp2
   go_roundw
   case rel => exact ⟨3, by omega, rfl, by simpa [OwnK, octL] using hown', b6⟩
   case measure => simp [intOf]
  ·go_wp2_with (at_builtin; refine wpList_append_rd _ rfl _ _ 102 rfl w.heap.size 5 i0 _ 1 1 Tryd.underlying102 hi hz0 hz1 hz2 rfl (by decide) _ _ _ rfl (OwnK.below HO.out ((Below.refl _ _).alloc (Nat.le_refl _) _)) (some ⟨wr.heap.size, 0, none⟩) 1 1 [.int .u8 (oct n 3)] rfl rfl (Rd.new_row _ _ _) (by simp [Value.oneCell']) (by simp [octL, maxLen]) (by simp [octL]) (by simp; omega) ?_; intro v' w6 hown' hgrow _)
   have b6 : Below w.heap.size w w6 := (HL.out.alloc hs _).grown hgrow (by simp; omega) (fun g hg => (HO.out.lt g hg).1)
   go_wp2
   go_roundw
   case rel => exact ⟨4, by omega, rfl, by simpa [OwnK, octL] using hown', b6⟩
   case measure => simp [intOf]
  ·go_wp2_with (at_builtin; refine wpList_append_rd _ rfl _ _ 102 rfl w.heap.size 5 i0 _ 1 1 Tryd.underlying102 hi hz0 hz1 hz2 rfl (by decide) _ _ _ rfl (OwnK.below HO.out ((Below.refl _ _).alloc (Nat.le_refl _) _)) (some ⟨wr.heap.size, 0, none⟩) 1 1 [.int .u8 (oct n 4)] rfl rfl (Rd.new_row _ _ _) (by simp [Value.oneCell']) (by simp [octL, maxLen]) (by simp [octL]) (by simp; omega) ?_; intro v' w6 hown' hgrow _)
   have b6 : Below w.heap.size w w6 := (HL.out.alloc hs _).grown hgrow (by simp; omega) (fun g hg => (HO.out.lt g hg).1)
   go_wp2
   go_roundw
   case rel => exact ⟨5, by omega, rfl, by simpa [OwnK, octL] using hown', b6⟩
   case measure => simp [intOf]
  ·go_wp2_with (at_builtin; refine wpList_append_rd _ rfl _ _ 102 rfl w.heap.size 5 i0 _ 1 1 Tryd.underlying102 hi hz0 hz1 hz2 rfl (by decide) _ _ _ rfl (OwnK.below HO.out ((Below.refl _ _).alloc (Nat.le_refl _) _)) (some ⟨wr.heap.size, 0, none⟩) 1 1 [.int .u8 (oct n 5)] rfl rfl (Rd.new_row _ _ _) (by simp [Value.oneCell']) (by simp [octL, maxLen]) (by simp [octL]) (by simp; omega) ?_; intro v' w6 hown' hgrow _)
   have b6 : Below w.heap.size w w6 := (HL.out.alloc hs _).grown hgrow (by simp; omega) (fun g hg => (HO.out.lt g hg).1)
   go_wp2
   go_roundw
   case rel => exact ⟨6, by omega, rfl, by simpa [OwnK, octL] using hown', b6⟩
   case measure => simp [intOf]
  ·go_wp2_with (at_builtin; refine wpList_append_rd _ rfl _ _ 102 rfl w.heap.size 5 i0 _ 1 1 Tryd.underlying102 hi hz0 hz1 hz2 rfl (by decide) _ _ _ rfl (OwnK.below HO.out ((Below.refl _ _).alloc (Nat.le_refl _) _)) (some ⟨wr.heap.size, 0, none⟩) 1 1 [.int .u8 (oct n 6)] rfl rfl (Rd.new_row _ _ _) (by simp [Value.oneCell']) (by simp [octL, maxLen]) (by simp [octL]) (by simp; omega) ?_; intro v' w6 hown' hgrow _)
   have b6 : Below w.heap.size w w6 := (HL.out.alloc hs _).grown hgrow (by simp; omega) (fun g hg => (HO.out.lt g hg).1)
   go_wp2
   go_roundw
   case rel => exact ⟨7, by omega, rfl, by simpa [OwnK, octL] using hown', b6⟩
   case measure => simp [intOf]
  ·go_wp2_with (at_builtin; refine wpList_append_rd _ rfl _ _ 102 rfl w.heap.size 5 i0 _ 1 1 Tryd.underlying102 hi hz0 hz1 hz2 rfl (by decide) _ _ _ rfl (OwnK.below HO.out ((Below.refl _ _).alloc (Nat.le_refl _) _)) (some ⟨wr.heap.size, 0, none⟩) 1 1 [.int .u8 (n % 256)] rfl rfl (Rd.new_row _ _ _) (by simp [Value.oneCell']) (by simp [octL, maxLen]) (by simp [octL]) (by simp; omega) ?_; intro v' w6 hown' hgrow _)
   have b6 : Below w.heap.size w w6 := (HL.out.alloc hs _).grown hgrow (by simp; omega) (fun g hg => (HO.out.lt g hg).1)
   go_wp2
   go_roundw
   case rel => exact ⟨8, by omega, rfl, by simpa [OwnK, octL, show oct n 7 = n % 256 by unfold oct; simp] using hown', b6⟩
   case measure => simp [intOf]
  ·go_wp2
   go_ret
   exact ⟨_, rfl, by simpa [octL] using HO.out, HL.out⟩
theorem decimal0 (w : World) : Calls Tryd.prog 96 #[.int .i64 0] w fun e w' => e = .returned (.string ⟨#[48]⟩) ∧ Below w.heap.size w w' := by
 have hcv := run_convert_bytes_back (P := Tryd.prog) (w.alloc (.cells #[.int .u8 48] 5)) 102 9 5 ⟨w.heap.size, 0, none⟩ 1 [48] Tryd.underlying102 Tryd.underlying5 Tryd.underlying9 (fun j hj => by
  obtain rfl : j = 0 := by simpa using hj
  exact cell_at w _ _ _ 0 rfl)
 simp only [List.length_cons, List.length_nil, Nat.zero_add] at hcv
 go_enter Tryd.func96, Tryd.ntmps96
 go_wp2
 go_ret
 exact ⟨rfl, (Below.refl _ _).alloc (Nat.le_refl _) _⟩
set_option maxHeartbeats 1000000 in
theorem rText0 (B : Option Addr) (d : Nat) (w : World) (h' : KS .i64 w B [0]) :
  Calls Tryd.prog 73 #[.slice B 1 d] w fun e w' => ∃ v, e = .returned v ∧ OwnK .u8 5 w' w.heap.size v [48, 32] ∧ Below w.heap.size w w' := by
 obtain ⟨i0, hi, hz0, hz1, hz2⟩ := info_parts infoB; obtain ⟨b, o, rfl, hbl, hc⟩ := h'.at_ (i := 0) (by simp); have c0 := hc 0 (by simp); simp only [Nat.add_zero, List.getElem_cons_zero] at c0; clear hc
 go_enter Tryd.func73, Tryd.ntmps73
 go_wp2
 go_loopw [3, 4] (fun u i wr => (i = .int .i64 0 ∧ u = .slice none 0 0 ∧ wr = w) ∨ (i = .int .i64 1 ∧ OwnK .u8 5 wr w.heap.size u [48, 32] ∧ Below w.heap.size w wr)) (fun _ i _ => 1 - (intOf i).toNat)
 case atStart => exact .inl ⟨rfl, rfl, rfl⟩
 case round =>
  rcases hrel with ⟨rfl, rfl, rfl⟩ | ⟨rfl, ho, hb⟩
  ·go_wp2_with (first
    | (go_at_call 96; refine (decimal0 _).mono ?_; rintro e w2 ⟨rfl, hb2⟩; have HB := hide hb2; have hs2 := hb2.size; clear hb2)
    | (at_builtin; refine wpList_append_src_grows _ rfl _ _ 102 9 rfl 5 i0 _ 1 1 Tryd.underlying102 hi hz0 hz1 hz2 rfl none 0 0 rfl [] rfl (Rd.nil _ _) (.string ⟨#[48]⟩) 1 [.int .u8 48] rfl (Src.ofString _ Tryd.underlying9 ⟨#[48]⟩) (by omega) (by simp [maxLen]) (by omega) ?_; intro v3 w3 hown3 hgrow3; have HO := hide (show OwnK .u8 5 w3 w2.heap.size v3 [48] from hown3); have HB := hide (HB.out.trans ((Below.of_grown hgrow3).mono hs2)); have hs3 := HB.out.size; have hs23 := (Below.of_grown hgrow3).size; clear hown3 hgrow3)
    | (at_builtin; refine wpList_append_rd _ rfl _ _ 102 rfl w2.heap.size 5 i0 _ 1 1 Tryd.underlying102 hi hz0 hz1 hz2 rfl (by decide) _ _ _ rfl (OwnK.below HO.out ((Below.refl _ _).alloc (Nat.le_refl _) _)) (some ⟨w3.heap.size, 0, none⟩) 1 1 [.int .u8 32] rfl rfl (Rd.new_row _ _ _) (by simp [Value.oneCell']) (by simp [maxLen]) (by simp) (by simp; omega) ?_; intro v' w6 hown' hgrow _))
   have b6 : Below wr.heap.size wr w6 := (HB.out.alloc hs3 _).grown hgrow (by simp; omega) (fun g hg => by have := (HO.out.lt g hg).1; omega); have ho6 : OwnK .u8 5 w6 wr.heap.size v' [48, 32] := by
    have h6 : w6.ownsRow w2.heap.size 5 1 v' 2 [.int .u8 48, .int .u8 32] := by simpa using hown'
    refine ⟨rfl, ?_⟩; rcases h6.2 with h2 | ⟨g, cap, cur, hv, hg, r⟩
    ·exact .inl h2
    ·exact .inr ⟨g, cap, cur, hv, by omega, r⟩
   have H6 := hide ho6; clear hown' hgrow ho6
   go_wp2
   go_roundw
   case rel => exact .inr ⟨rfl, H6.out, b6⟩
   case measure => simp [intOf]
  ·have HO := hide ho; have HB := hide hb; clear ho hb
   go_wp2
   go_ret
   exact ⟨_, rfl, HO.out, HB.out⟩
set_option maxHeartbeats 1000000 in
theorem rNext0 (n : Int) (B : Option Addr) (d : Nat) (w : World) (h' : KS .i64 w B [0]) :
  Calls Tryd.prog 37 #[.int .u64 n, .slice B 1 d] w fun e w' => e = .returned (.int .u64 (leafF n)) ∧ Below w.heap.size w w' := by
 obtain ⟨i0, hi, hz0, hz1, hz2⟩ := info_parts infoB; have HI := hide h'; have HS := hide fun A c l W hn s => rSum_any A c l W hn s
 clear h'
 go_enter Tryd.func37, Tryd.ntmps37
 go_wp2_with (first
  | (go_at_call 72; refine (eight_any n _).mono ?_; rintro e w2 ⟨v2, rfl, ho2, hb2⟩; have O2 := hide ho2; have B2 := hide hb2; have I2 := hide (HI.out.then_ hb2); clear ho2 hb2)
  | (go_at_call 73; refine (rText0 B d _ I2.out).mono ?_; rintro e w3 ⟨v3, rfl, ho3, hb3⟩; have O3 := hide (OwnK.below O2.out hb3); have B3 := hide (B2.out.trans (hb3.mono B2.out.size)); obtain ⟨A3, c3, rfl, hl3, hm3, hk3⟩ := ho3.form; have K3 := hide hk3; clear ho3 hb3 hk3)
  | (at_builtin; refine wpList_append_rd _ rfl _ _ 102 rfl w.heap.size 5 i0 _ 1 1 Tryd.underlying102 hi hz0 hz1 hz2 rfl (by decide) _ _ _ rfl O3.out A3 2 c3 [.int .u8 48, .int .u8 32] rfl rfl K3.out (by simp [Value.oneCell']) (by simp [maxLen, octL]) (by simp [octL]) B3.out.size ?_; intro v6 w6 hown6 hgrow6 _; have O6 := hide (show OwnK .u8 5 w6 w.heap.size v6 (octL n ++ [48] ++ [32]) from hown6); have B6 := hide (B3.out.grown hgrow6 B3.out.size (fun g hg => (O3.out.lt g hg).1)); obtain ⟨A6, c6, rfl, hl6, hm6, hk6⟩ := O6.out.form; have K6 := hide hk6; clear hown6 hgrow6 hk6)
  | (go_at_call 74; refine (HS.out A6 c6 _ _ (by simp [octL]) K6.out).mono ?_; rintro e w4 ⟨rfl, rfl⟩))
 go_ret
 exact ⟨rfl, B6.out⟩
theorem rLeaf_any (n : Int) (w : World) : Calls Tryd.prog 87 #[.int .u64 n] w fun e w' => e = .returned (.int .u64 (leafF n)) ∧ Below w.heap.size w w' := by
 have K := hide (show KS .i64 (w.alloc (.cells #[.int .i64 0] 3)) (some ⟨w.heap.size, 0, none⟩) [0] from Rd.new_row w 3 #[.int .i64 0])
 go_enter Tryd.func87, Tryd.ntmps87
 go_wp2_with (go_at_call 37; refine (rNext0 n _ _ _ K.out).mono ?_; rintro e w2 ⟨rfl, hb⟩)
 go_ret
 exact ⟨rfl, ((Below.refl w.heap.size w).alloc (Nat.le_refl _) _).trans (hb.mono (by simp))⟩
end Go.Proofs.YtmfjcachghboiaaDoor
namespace Go.Proofs.YtmfjcachghboiaaDoor
def upT (a b : Nat) : Nat × Nat := if _h : a % 2 = 0 ∧ a ≠ 0 then upT (a / 2) (b / 2) else (a / 2, b / 2)
termination_by a
decreasing_by omega
def isR (a b : Nat) : Bool := decide (a % 2 = 1) || decide (a = b)
def wlk {S : Type} (fr fl : S → Int → S) : Nat → Nat → S → List Int → Option S
 | _, b, s, [] => if b = 0 then some s else none
 | a, b, s, p :: ps => if b = 0 then none else if isR a b = true then wlk fr fl (upT a b).1 (upT a b).2 (fr s p) ps else wlk fr fl (a / 2) (b / 2) (fl s p) ps
theorem upT_odd {a b : Nat} (h : a % 2 = 1) : upT a b = (a / 2, b / 2) := by rw [upT, dif_neg (by omega)]
theorem upT_even {a b : Nat} (h : a % 2 = 0) (h0 : a ≠ 0) : upT a b = upT (a / 2) (b / 2) := by rw [upT, dif_pos ⟨h, h0⟩]
theorem two_pow_half (e : Nat) (x : Nat) : (2 ^ (e + 1) + x) / 2 = 2 ^ e + x / 2 := by rw [Nat.pow_succ]; omega
theorem two_pow_par (e : Nat) (x : Nat) : (2 ^ (e + 1) + x) % 2 = x % 2 := by rw [Nat.pow_succ]; omega
theorem upT_top : ∀ e, upT (2 ^ e) (2 ^ e) = (0, 0)
 | 0 => by rw [Nat.pow_zero, upT_odd rfl]
 | e + 1 => by
  have h1 := two_pow_half e 0; have h2 := two_pow_par e 0; have h3 : 0 < 2 ^ (e + 1) := Nat.two_pow_pos _; simp only [Nat.add_zero, Nat.zero_div, Nat.zero_mod] at h1 h2; rw [upT_even h2 (by omega), h1]; exact upT_top e
theorem upT_lift : ∀ e a b, a ≤ b → b < 2 ^ e → 0 < b → (a % 2 = 1 ∨ a = b) →
  ∃ e', upT (2 ^ e + a) (2 ^ e + b) = (2 ^ e' + (upT a b).1, 2 ^ e' + (upT a b).2) ∧ (upT a b).1 ≤ (upT a b).2 ∧ (upT a b).2 < 2 ^ e'
 | 0, a, b, _, h2, h3, _ => by rw [Nat.pow_zero] at h2; omega
 | e + 1, a, b, h1, h2, h3, h4 => by
  have p1 := two_pow_half e a; have p2 := two_pow_half e b; have p3 := two_pow_par e a; have p4 : 2 ^ (e + 1) = 2 * 2 ^ e := by rw [Nat.pow_succ]; omega
  have p5 : 0 < 2 ^ e := Nat.two_pow_pos _
  by_cases ho : a % 2 = 1
  ·rw [upT_odd (by omega), upT_odd ho, p1, p2]; exact ⟨e, rfl, Nat.div_le_div_right h1, by omega⟩
  ·have hab : a = b := h4.resolve_left ho; rw [upT_even (a := 2 ^ (e + 1) + a) (by omega) (by omega), upT_even (a := a) (by omega) (by omega), p1, p2]; exact upT_lift e (a / 2) (b / 2) (by omega) (by omega) (by omega) (.inr (by omega))
theorem isR_lift {e a b : Nat} : isR (2 ^ (e + 1) + a) (2 ^ (e + 1) + b) = isR a b := by
 unfold isR; rw [two_pow_par]
 congr 1
 rw [Bool.eq_iff_iff, decide_eq_true_eq, decide_eq_true_eq]; omega
theorem isR_iff {a b : Nat} : isR a b = true ↔ a % 2 = 1 ∨ a = b := by unfold isR; simp
section
variable {S : Type} {fr fl : S → Int → S}
theorem wlk_nil {a b : Nat} {s : S} (h : b ≠ 0) : wlk fr fl a b s [] = none := by rw [wlk, if_neg h]
theorem wlk_nil0 {a : Nat} {s : S} : wlk fr fl a 0 s [] = some s := by rw [wlk, if_pos rfl]
theorem wlk_cons {a b : Nat} {s : S} {p : Int} {ps : List Int} : wlk fr fl a b s (p :: ps) = if b = 0 then none else if isR a b = true then wlk fr fl (upT a b).1 (upT a b).2 (fr s p) ps else wlk fr fl (a / 2) (b / 2) (fl s p) ps := by rw [wlk]
theorem wlk_end {a : Nat} {s : S} {p : Int} {ps : List Int} : wlk fr fl a 0 s (p :: ps) = none := by rw [wlk, if_pos rfl]
theorem wlk_end2 {a : Nat} {s : S} {ps : List Int} (h : ps ≠ []) : wlk fr fl a 0 s ps = none := by
 cases ps with
 | nil => exact absurd rfl h
 | cons p ps => exact wlk_end
theorem wlk_right (p : Int) : ∀ (ps : List Int) (e a b : Nat) (s : S), a ≤ b → b < 2 ^ e → wlk fr fl (2 ^ e + a) (2 ^ e + b) s (ps ++ [p]) = (wlk fr fl a b s ps).map (fun s => fr s p)
 | ps, 0, a, b, s, h1, h2 => by
  rw [Nat.pow_zero] at h2; obtain rfl : b = 0 := by omega
  obtain rfl : a = 0 := by omega
  cases ps with
  | nil =>
   rw [List.nil_append, wlk_cons, if_neg (by simp), if_pos (isR_iff.2 (.inr rfl)), upT_top 0, wlk_nil0, wlk_nil0]; rfl
  | cons q qs =>
   rw [List.cons_append, wlk_cons, if_neg (by simp), if_pos (isR_iff.2 (.inr rfl)), upT_top 0, wlk_end, wlk_end2 (by simp)]; rfl
 | ps, e + 1, a, b, s, h1, h2 => by
  have p1 := two_pow_half e a; have p2 := two_pow_half e b; have p4 : 2 ^ (e + 1) = 2 * 2 ^ e := by rw [Nat.pow_succ]; omega
  have p5 : 0 < 2 ^ e := Nat.two_pow_pos _
  by_cases hb : b = 0
  ·subst hb; obtain rfl : a = 0 := by omega
   rw [Nat.add_zero]; cases ps with
   | nil =>
    rw [List.nil_append, wlk_cons, if_neg (by omega), if_pos (isR_iff.2 (.inr rfl)), upT_top, wlk_nil0, wlk_nil0]; rfl
   | cons q qs =>
    rw [List.cons_append, wlk_cons, if_neg (by omega), if_pos (isR_iff.2 (.inr rfl)), upT_top, wlk_end, wlk_end2 (by simp)]; rfl
  ·cases ps with
   | nil =>
    rw [List.nil_append, wlk_nil hb, wlk_cons, if_neg (by omega), isR_lift]
    by_cases hr : isR a b = true
    ·rw [if_pos hr]; obtain ⟨e', he, _, _⟩ := upT_lift (e + 1) a b h1 h2 (by omega) (isR_iff.1 hr); have : 0 < 2 ^ e' := Nat.two_pow_pos _; rw [he, wlk_nil (by dsimp only; omega)]; rfl
    ·rw [if_neg hr, p2, wlk_nil (by omega)]; rfl
   | cons q qs =>
    rw [List.cons_append, wlk_cons, if_neg (by omega), isR_lift, wlk_cons, if_neg hb]
    by_cases hr : isR a b = true
    ·rw [if_pos hr, if_pos hr]; obtain ⟨e', he, h3, h4⟩ := upT_lift (e + 1) a b h1 h2 (by omega) (isR_iff.1 hr); rw [he]; exact wlk_right p qs e' _ _ _ h3 h4
    ·rw [if_neg hr, if_neg hr, p1, p2]; exact wlk_right p qs e _ _ _ (Nat.div_le_div_right h1) (by omega)
theorem wlk_left (p : Int) : ∀ (ps : List Int) (e a b : Nat) (s : S), a < 2 ^ e → 2 ^ e ≤ b → b < 2 ^ (e + 1) → wlk fr fl a b s (ps ++ [p]) = (wlk fr fl a (2 ^ e - 1) s ps).map (fun s => fl s p)
 | ps, 0, a, b, s, h1, h2, h3 => by
  rw [Nat.pow_zero] at h1 h2; rw [Nat.pow_succ, Nat.pow_zero] at h3; obtain rfl : a = 0 := by omega
  obtain rfl : b = 1 := by omega
  cases ps with
  | nil =>
   rw [List.nil_append, wlk_cons, if_neg (by simp), if_neg (by simp [isR]), show 2 ^ 0 - 1 = 0 from rfl, show 1 / 2 = 0 from rfl, wlk_nil0, wlk_nil0]; rfl
  | cons q qs =>
   rw [List.cons_append, wlk_cons, if_neg (by simp), if_neg (by simp [isR])]; rw [show 2 ^ 0 - 1 = 0 from rfl, wlk_end, wlk_end2 (by simp)]; rfl
 | ps, e + 1, a, b, s, h1, h2, h3 => by
  have p4 : 2 ^ (e + 1) = 2 * 2 ^ e := by rw [Nat.pow_succ]; omega
  have p6 : 2 ^ (e + 1 + 1) = 2 * (2 * 2 ^ e) := by rw [Nat.pow_succ, Nat.pow_succ]; omega
  have p5 : 0 < 2 ^ e := Nat.two_pow_pos _; have p7 : (2 ^ (e + 1) - 1) / 2 = 2 ^ e - 1 := by omega
  cases ps with
  | nil =>
   rw [List.nil_append, wlk_nil (by omega), wlk_cons, if_neg (by omega)]
   by_cases ho : a % 2 = 1
   ·rw [if_pos (isR_iff.2 (.inl ho)), upT_odd ho, wlk_nil (by dsimp only; omega)]; rfl
   ·rw [if_neg (fun h => by rcases isR_iff.1 h with h | h; exact ho h; omega), wlk_nil (by omega)]; rfl
  | cons q qs =>
   have hb0 : b ≠ 0 := by omega
   have hb1 : 2 ^ (e + 1) - 1 ≠ 0 := by omega
   rw [List.cons_append, wlk_cons (b := b), wlk_cons (b := 2 ^ (e + 1) - 1), if_neg hb0, if_neg hb1]
   by_cases ho : a % 2 = 1
   ·have hr1 : isR a b = true := isR_iff.2 (.inl ho); have hr2 : isR a (2 ^ (e + 1) - 1) = true := isR_iff.2 (.inl ho); rw [if_pos hr1, if_pos hr2, upT_odd ho, upT_odd ho]
    dsimp only
    rw [p7]; exact wlk_left p qs e _ _ _ (by omega) (by omega) (by omega)
   ·have hr1 : ¬isR a b = true := fun h => by rcases isR_iff.1 h with h | h; exact ho h; omega
    have hr2 : ¬isR a (2 ^ (e + 1) - 1) = true := fun h => by rcases isR_iff.1 h with h | h; exact ho h; omega
    rw [if_neg hr1, if_neg hr2, p7]; exact wlk_left p qs e _ _ _ (by omega) (by omega) (by omega)
end
def hf (n : Nat) : Nat := 2 ^ Nat.log2 (n - 1)
theorem hf_spec {n : Nat} (h : 2 ≤ n) : 1 ≤ hf n ∧ hf n < n ∧ n ≤ 2 * hf n := by
 unfold hf; have h1 := Nat.log2_self_le (n := n - 1) (by omega); have h2 := Nat.lt_log2_self (n := n - 1); have h3 : 2 ^ (Nat.log2 (n - 1) + 1) = 2 * 2 ^ Nat.log2 (n - 1) := by rw [Nat.pow_succ]; omega
 have h4 : 0 < 2 ^ Nat.log2 (n - 1) := Nat.two_pow_pos _; omega
theorem pow_le_iff {a b : Nat} (h : 2 ^ a < 2 ^ b) : a < b := (Nat.pow_lt_pow_iff_right (by omega)).1 h
theorem hf_max {n e : Nat} (h : 2 ^ e < n) : 2 ^ e ≤ hf n := by
 have h1 := hf_spec (n := n) (by have := Nat.two_pow_pos e; omega); unfold hf at h1 ⊢; have h2 : 2 ^ e < 2 ^ (Nat.log2 (n - 1) + 1) := by rw [Nat.pow_succ]; omega
 exact Nat.pow_le_pow_right (by omega) (by have := pow_le_iff h2; omega)
end Go.Proofs.YtmfjcachghboiaaDoor
namespace Go.Proofs.YtmfjcachghboiaaDoor
section
variable (lf : Int → Int) (pr : Int → Int → Int)
def rootT (l : List Int) : Int := if _h : 2 ≤ l.length then pr (rootT (l.take (hf l.length))) (rootT (l.drop (hf l.length))) else lf (l.headD 0)
termination_by l.length
decreasing_by
 all_goals
  have := hf_spec _h
  simp
  omega
def inclT (l : List Int) (i : Nat) : List Int :=
 if _h : 2 ≤ l.length then if i < hf l.length then inclT (l.take (hf l.length)) i ++ [rootT lf pr (l.drop (hf l.length))] else inclT (l.drop (hf l.length)) (i - hf l.length) ++ [rootT lf pr (l.take (hf l.length))] else []
termination_by l.length
decreasing_by
 all_goals
  have := hf_spec _h
  simp
  omega
def leadJ (d : Int) (i n : Nat) (path : List Int) : Int × Bool :=
 if _h : 2 ≤ n then
  if path = [] then (0, false)
  else if i < hf n then (pr (leadJ d i (hf n) path.dropLast).1 (path.getLastD 0), (leadJ d i (hf n) path.dropLast).2)
  else (pr (path.getLastD 0) (leadJ d (i - hf n) (n - hf n) path.dropLast).1, (leadJ d (i - hf n) (n - hf n) path.dropLast).2)
 else (lf d, path.isEmpty)
termination_by n
decreasing_by
 all_goals
  have := hf_spec _h; omega
variable {lf} {pr}
theorem rootT_split {l : List Int} (h : 2 ≤ l.length) : rootT lf pr l = pr (rootT lf pr (l.take (hf l.length))) (rootT lf pr (l.drop (hf l.length))) := by rw [rootT, dif_pos h]
theorem rootT_one {l : List Int} (h : ¬2 ≤ l.length) : rootT lf pr l = lf (l.headD 0) := by rw [rootT, dif_neg h]
theorem leadJ_one {d : Int} {i n : Nat} {path : List Int} (h : ¬2 ≤ n) : leadJ lf pr d i n path = (lf d, path.isEmpty) := by rw [leadJ, dif_neg h]
theorem leadJ_nil {d : Int} {i n : Nat} (h : 2 ≤ n) : leadJ lf pr d i n [] = (0, false) := by rw [leadJ, dif_pos h, if_pos rfl]
theorem leadJ_left {d : Int} {i n : Nat} {ps : List Int} {p : Int} (h : 2 ≤ n) (hi : i < hf n) : leadJ lf pr d i n (ps ++ [p]) = (pr (leadJ lf pr d i (hf n) ps).1 p, (leadJ lf pr d i (hf n) ps).2) := by
 rw [leadJ, dif_pos h, if_neg (by simp), if_pos hi]; simp
theorem leadJ_right {d : Int} {i n : Nat} {ps : List Int} {p : Int} (h : 2 ≤ n) (hi : ¬i < hf n) : leadJ lf pr d i n (ps ++ [p]) = (pr p (leadJ lf pr d (i - hf n) (n - hf n) ps).1, (leadJ lf pr d (i - hf n) (n - hf n) ps).2) := by
 rw [leadJ, dif_pos h, if_neg (by simp), if_neg hi]; simp
theorem snoc_cases (path : List Int) : path = [] ∨ ∃ ps p, path = ps ++ [p] := by
 rcases List.eq_nil_or_concat path with h | ⟨ps, p, h⟩
 ·exact .inl h
 ·exact .inr ⟨ps, p, by rw [h]; simp⟩
variable (lf) (pr) in
def leadO (d : Int) (i n : Nat) (path : List Int) : Option Int := if (leadJ lf pr d i n path).2 = true then some (leadJ lf pr d i n path).1 else none
theorem lead_walk : ∀ (n : Nat) (d : Int) (i : Nat) (path : List Int), i < n → leadO lf pr d i n path = wlk (fun s p => pr p s) (fun s p => pr s p) i (n - 1) (lf d) path := by
 intro n
 induction n using Nat.strongRecOn with
 | ind n ih =>
  intro d i path hi
  by_cases hn : 2 ≤ n
  ·obtain ⟨h1, h2, h3⟩ := hf_spec hn; rcases snoc_cases path with rfl | ⟨ps, p, rfl⟩
   ·unfold leadO; rw [leadJ_nil hn, wlk_nil (by omega)]; rfl
   ·obtain ⟨e, he⟩ : ∃ e, hf n = 2 ^ e := ⟨_, rfl⟩
    by_cases hk : i < hf n
    ·have h4 := ih (hf n) h2 d i ps hk; have h5 := wlk_left (fr := fun s p => pr p s) (fl := fun s p => pr s p) p ps e i (n - 1) (lf d) (by omega) (by omega) (by rw [Nat.pow_succ]; omega); rw [h5, ← he, ← h4]; unfold leadO; rw [leadJ_left hn hk]
     dsimp only
     cases (leadJ lf pr d i (hf n) ps).2 <;> rfl
    ·have h4 := ih (n - hf n) (by omega) d (i - hf n) ps (by omega); have h5 := wlk_right (fr := fun s p => pr p s) (fl := fun s p => pr s p) p ps e (i - hf n) (n - hf n - 1) (lf d) (by omega) (by omega); rw [show 2 ^ e + (i - hf n) = i by omega, show 2 ^ e + (n - hf n - 1) = n - 1 by omega] at h5; rw [h5, ← h4]; unfold leadO; rw [leadJ_right hn hk]
     dsimp only
     cases (leadJ lf pr d (i - hf n) (n - hf n) ps).2 <;> rfl
  ·obtain rfl : n = 1 := by omega
   obtain rfl : i = 0 := by omega
   unfold leadO; rw [leadJ_one hn]; cases path with
   | nil => rw [wlk_nil0]; rfl
   | cons p ps => rw [wlk_end]; rfl
end
end Go.Proofs.YtmfjcachghboiaaDoor
namespace Go.Proofs.YtmfjcachghboiaaDoor
section
variable {lf : Int → Int} {pr : Int → Int → Int}
theorem inclT_left {l : List Int} {i : Nat} (h : 2 ≤ l.length) (hi : i < hf l.length) : inclT lf pr l i = inclT lf pr (l.take (hf l.length)) i ++ [rootT lf pr (l.drop (hf l.length))] := by rw [inclT, dif_pos h, if_pos hi]
theorem inclT_right {l : List Int} {i : Nat} (h : 2 ≤ l.length) (hi : ¬i < hf l.length) : inclT lf pr l i = inclT lf pr (l.drop (hf l.length)) (i - hf l.length) ++ [rootT lf pr (l.take (hf l.length))] := by rw [inclT, dif_pos h, if_neg hi]
theorem inclT_one {l : List Int} {i : Nat} (h : ¬2 ≤ l.length) : inclT lf pr l i = [] := by rw [inclT, dif_neg h]
def plen (i n : Nat) : Nat := if _h : 2 ≤ n then if i < hf n then plen i (hf n) + 1 else plen (i - hf n) (n - hf n) + 1 else 0
termination_by n
decreasing_by
 all_goals
  have := hf_spec _h; omega
theorem incl_len : ∀ (n : Nat) (l : List Int), l.length = n → ∀ i, (inclT lf pr l i).length = plen i n := by
 intro n
 induction n using Nat.strongRecOn with
 | ind n ih =>
  intro l hl i; subst hl; rw [plen]
  by_cases hn : 2 ≤ l.length
  ·obtain ⟨h1, h2, h3⟩ := hf_spec hn; rw [dif_pos hn]
   by_cases hk : i < hf l.length
   ·rw [if_pos hk, inclT_left hn hk, List.length_append, ih (hf l.length) h2 _ (by simp; omega)]; rfl
   ·rw [if_neg hk, inclT_right hn hk, List.length_append, ih (l.length - hf l.length) (by omega) _ (by simp)]; rfl
  ·rw [dif_neg hn, inclT_one hn]; rfl
theorem lead_len : ∀ (n : Nat) (d : Int) (i : Nat) (path : List Int), (leadJ lf pr d i n path).2 = decide (path.length = plen i n) := by
 intro n
 induction n using Nat.strongRecOn with
 | ind n ih =>
  intro d i path; rw [plen]
  by_cases hn : 2 ≤ n
  ·obtain ⟨h1, h2, h3⟩ := hf_spec hn; rw [dif_pos hn]; rcases snoc_cases path with rfl | ⟨ps, p, rfl⟩
   ·rw [leadJ_nil hn]
    by_cases hk : i < hf n
    ·rw [if_pos hk]; simp
    ·rw [if_neg hk]; simp
   ·by_cases hk : i < hf n
    ·rw [leadJ_left hn hk, if_pos hk, ih (hf n) h2, List.length_append, Bool.eq_iff_iff]; simp
    ·rw [leadJ_right hn hk, if_neg hk, ih (n - hf n) (by omega), List.length_append, Bool.eq_iff_iff]; simp
  ·rw [dif_neg hn, leadJ_one hn]; cases path <;> simp
theorem plen_le : ∀ (e n i : Nat), n ≤ 2 ^ e → plen i n ≤ e
 | 0, n, i, h => by rw [Nat.pow_zero] at h; rw [plen, dif_neg (by omega)]; exact Nat.le_refl _
 | e + 1, n, i, h => by
  rw [plen]
  by_cases hn : 2 ≤ n
  ·obtain ⟨h1, h2, h3⟩ := hf_spec hn; have h4 : hf n ≤ 2 ^ e := by
    have h5 : hf n < 2 ^ (e + 1) := by omega
    unfold hf at h5 ⊢; exact Nat.pow_le_pow_right (by omega) (by have := pow_le_iff h5; omega)
   rw [dif_pos hn]
   split
   ·have := plen_le e (hf n) i h4; omega
   ·have := plen_le e (n - hf n) (i - hf n) (by omega); omega
  ·rw [dif_neg hn]; omega
end
end Go.Proofs.YtmfjcachghboiaaDoor
namespace Go.Proofs.YtmfjcachghboiaaDoor
open Go.RowKit
theorem bitLenAux_eq : ∀ (f x : Nat), x < 2 ^ f → Lib.bitLenAux f x = if x = 0 then 0 else Nat.log2 x + 1
 | 0, x, h => by
  rw [Nat.pow_zero] at h; obtain rfl : x = 0 := by omega
  rfl
 | f + 1, x, h => by
  rw [Lib.bitLenAux, bitLenAux_eq f (x / 2) (by rw [Nat.pow_succ] at h; omega)]
  by_cases h0 : x = 0
  ·simp [h0]
  ·rw [if_neg h0, if_neg h0]
   by_cases h1 : x / 2 = 0
   ·rw [if_pos h1]; obtain rfl : x = 1 := by omega
    rfl
   ·rw [if_neg h1, Nat.log2_def (n := x), if_pos (by omega)]; omega
theorem bitLen_eq {x : Nat} (h0 : 0 < x) (h : x < 10000) : Lib.bitLen x = Nat.log2 x + 1 := by
 unfold Lib.bitLen; rw [bitLenAux_eq 64 x (by omega), if_neg (by omega)]
set_option maxHeartbeats 1000000 in
theorem half_any (n : Nat) (w : World) (h : 2 ≤ n) (hn : n ≤ 10000) : Calls Tryd.prog 90 #[.int .i64 n] w fun e w' => e = .returned (.int .i64 (hf n)) ∧ w = w' := by
 have hb := bitLen_eq (x := n - 1) (by omega) (by omega); have hb2 : Nat.log2 (n - 1) < 14 := by
  have h1 := Nat.log2_self_le (n := n - 1) (by omega); refine Nat.lt_of_not_le fun h2 => ?_
  have h3 : 2 ^ 14 ≤ 2 ^ Nat.log2 (n - 1) := Nat.pow_le_pow_right (by omega) h2; omega
 have hl := Tryd.bits_Len ((n : Int) - 1)  w (by omega) (by omega); rw [show ((n : Int) - 1).toNat = n - 1 by omega, hb] at hl; have H := hide hl; have h1 : (0 : Int) ≤ (n : Int) - 1 := by omega
 have h2 : (n : Int) - 1 ≤ 10000 := by omega
 unfold hf; obtain ⟨e, he⟩ : ∃ e, e = Nat.log2 (n - 1) := ⟨_, rfl⟩; rw [← he] at H hb2 ⊢; clear hb hl he
 go_enter Tryd.func90, Tryd.ntmps90
 go_wp2_with (go_at_call 91; refine H.out.mono ?_; rintro e w2 ⟨rfl, rfl⟩)
 go_ret
 exact ⟨congrArg (fun x => Ending.returned (.int .i64 x)) ((by decide +kernel : ∀ e < 14, wrap64 ((2 : Int) ^ e) = ((2 ^ e : Nat) : Int)) e hb2), rfl⟩
set_option maxHeartbeats 2000000 in
theorem parts_any (b o c n : Nat) (w : World) (h : 2 ≤ n) (hn : n ≤ 10000) (hc : n ≤ c) : Calls Tryd.prog 64 #[.slice (some ⟨b, o, none⟩) n c] w fun e w' =>
  e = .returned (.tuple #[.slice (some ⟨b, o, none⟩) (hf n) (hf n), .slice (some ⟨b, o + hf n, none⟩) (n - hf n) (n - hf n)]) ∧ Below w.heap.size w w' := by
 have HH := hide fun W => half_any n W h hn
 obtain ⟨s1, s2, s3⟩ := hf_spec h; obtain ⟨k, hk⟩ : ∃ k, k = hf n := ⟨_, rfl⟩; rw [← hk] at HH s1 s2 s3 ⊢; have p1 : (0 : Int) ≤ k := by omega
 have p2 : (k : Int) ≤ n := by omega
 have p3 : (k : Int) ≤ c := by omega
 have p4 : (n : Int) ≤ c := by omega
 have p5 : ¬ n = k := by omega
 have p6 : ¬ c = k := by omega
 clear hk
 go_enter Tryd.func64, Tryd.ntmps64
 go_upto_region 3 with (go_at_call 90; refine (HH.out _).mono ?_; rintro e w2 ⟨rfl, rfl⟩)
 go_region
 all_goals
  go_wp2
  go_ret2
  exact ⟨rfl, (Below.refl _ _).drew⟩
def rootF (l : List Int) : Int := rootT leafF pairF l
set_option maxHeartbeats 2000000 in
theorem root_any : ∀ (n : Nat) (A : Option Addr) (c : Nat) (l : List Int) (w : World), l.length = n → 1 ≤ n → n ≤ 10000 → n ≤ c → KS .u64 w A l →
  Calls Tryd.prog 65 #[.slice A n c] w fun e w' => e = .returned (.int .u64 (rootF l)) ∧ Below w.heap.size w w' := by
 intro n
 induction n using Nat.strongRecOn with
 | ind n ih =>
  intro A c l w hl h1 hn hc h; obtain ⟨b, o, rfl, hbl, hcell⟩ := h.at_ (i := 0) (by omega)
  by_cases hn2 : 2 ≤ n
  ·have hsp := rootT_split (lf := leafF) (pr := pairF) (l := l) (by omega); rw [hl] at hsp; obtain ⟨s1, s2, s3⟩ := hf_spec hn2; have PP := hide fun W => parts_any b o c n W hn2 hn hc
   have hsh := KS.shift (n := hf n) h (by omega); obtain ⟨k, hk⟩ : ∃ k, k = hf n := ⟨_, rfl⟩; rw [← hk] at PP s1 s2 s3 hsp hsh; have hne : ((n : Int) == 1) = false := by simp; omega
   have R1 := hide fun W (s : KS .u64 W (some ⟨b, o, none⟩) (l.take k)) => ih k s2 (some ⟨b, o, none⟩) k (l.take k) W (by simp; omega) s1 (by omega) (Nat.le_refl _) s
   have R2 := hide fun W (s : KS .u64 W (some ⟨b, o + k, none⟩) (l.drop k)) => ih (n - k) (by omega) (some ⟨b, o + k, none⟩) (n - k) (l.drop k) W (by simp; omega) (by omega) (by omega) (Nat.le_refl _) s
   have K1 := hide (h.pre k); have K2 := hide hsh; have HSP := hide hsp; clear hsp ih hk hsh hcell h; obtain ⟨x, hx⟩ : ∃ x, x = rootF (l.take k) := ⟨_, rfl⟩; obtain ⟨y, hy⟩ : ∃ x, x = rootF (l.drop k) := ⟨_, rfl⟩; have HX := hide hx; have HY := hide hy; rw [← hx] at R1; rw [← hy] at R2; clear hx hy
   go_enter Tryd.func65, Tryd.ntmps65
   go_wp2_with (first
    | (go_at_call 64; refine (PP.out _).mono ?_; rintro e w2 ⟨rfl, hb⟩; have K1 := hide (K1.out.then_ hb); have K2 := hide (K2.out.then_ hb); have BB := hide hb; clear hb)
    | (go_at_call 65; with_reducible refine (R1.out _ K1.out).mono ?_; rintro e w3 ⟨rfl, hb⟩; have K2 := hide (K2.out.then_ hb); have BB := hide (BB.out.trans (hb.mono BB.out.size)); clear hb K1)
    | (go_at_call 65; with_reducible refine (R2.out _ K2.out).mono ?_; rintro e w4 ⟨rfl, hb⟩; have BB := hide (BB.out.trans (hb.mono BB.out.size)); clear hb)
    | (go_at_call 71; refine (pair_any _ _ _).mono ?_; rintro e w5 ⟨rfl, hb⟩; have BB := hide (BB.out.trans (hb.mono BB.out.size)); clear hb))
   go_ret
   exact ⟨by rw [show rootF l = pairF x y by rw [HX.out, HY.out]; exact HSP.out]; rfl, BB.out⟩
  ·obtain rfl : n = 1 := by omega
   have hr : rootF l = leafF l[0] := by
    unfold rootF; rw [rootT_one (by omega)]
    congr 1
    cases l with
    | nil => simp at hl
    | cons x l => rfl
   rw [hr]; have c0 := hcell 0 (by omega); rw [Nat.add_zero] at c0; clear hr hcell ih
   go_enter Tryd.func65, Tryd.ntmps65
   go_wp2_with (go_at_call 85; refine (leaf_any _ _).mono ?_; rintro e w2 ⟨rfl, hb⟩)
   go_ret
   exact ⟨rfl, hb⟩
def checkS (l : List Int) : Int := if l.length = 0 then 1 else if 4096 < l.length then 2 else 0
theorem check_any (A : Option Addr) (c : Nat) (l : List Int) (w : World) : Calls Tryd.prog 63 #[.slice A l.length c] w fun e w' => e = .returned (.int .i64 (checkS l)) ∧ w = w' := by
 unfold checkS; obtain ⟨n, hn⟩ : ∃ n, n = l.length := ⟨_, rfl⟩; rw [← hn]; clear hn
 by_cases h0 : n = 0
 ·subst h0
  go_enter Tryd.func63, Tryd.ntmps63
  go_wp2
  go_ret
  exact ⟨rfl, rfl⟩
 ·have q0 : ((n : Int) == 0) = false := by simp; omega
  by_cases h1 : 4096 < n
  ·have q1 : decide (4096 < (n : Int)) = true := by simp; omega
   rw [if_neg h0, if_pos h1]
   go_enter Tryd.func63, Tryd.ntmps63
   go_wp2
   go_ret
   exact ⟨rfl, rfl⟩
  ·have q1 : decide (4096 < (n : Int)) = false := by simp; omega
   rw [if_neg h0, if_neg h1]
   go_enter Tryd.func63, Tryd.ntmps63
   go_wp2
   go_ret
   exact ⟨rfl, rfl⟩
def rootS (l : List Int) : Int × Int := if checkS l ≠ 0 then (0, checkS l) else (rootF l, 0)
theorem checkS_ok {l : List Int} (h : checkS l = 0) : 1 ≤ l.length ∧ l.length ≤ 4096 := by
 unfold checkS at h
 split at h
 ·cases h
 ·split at h
  ·cases h
  ·omega
theorem Root_any (A : Option Addr) (c : Nat) (l : List Int) (w : World) (hc : l.length ≤ c) (h : KS .u64 w A l) :
  Calls Tryd.prog 77 #[.slice A l.length c] w fun e w' => e = .returned (.tuple #[.int .u64 (rootS l).1, .int .i64 (rootS l).2]) ∧ Below w.heap.size w w' := by
 have HC := hide fun W => check_any A c l W
 unfold rootS
 by_cases hk : checkS l = 0
 ·obtain ⟨h1, h2⟩ := checkS_ok hk; have R := hide (root_any l.length A c l w rfl h1 (by omega) hc h); rw [if_neg (by simpa using hk)]; rw [hk] at HC; clear hk
  go_enter Tryd.func77, Tryd.ntmps77
  go_wp2_with (first
   | (go_at_call 63; refine (HC.out _).mono ?_; rintro e w2 ⟨rfl, rfl⟩)
   | (go_at_call 65; refine R.out.mono ?_; rintro e w3 ⟨rfl, hb⟩))
  go_ret2
  exact ⟨rfl, hb⟩
 ·rw [if_pos hk]; obtain ⟨x, hx⟩ : ∃ x, x = checkS l := ⟨_, rfl⟩; rw [← hx] at HC hk ⊢; have q : (x != 0) = true := by simp [hk]
  clear hk hx
  go_enter Tryd.func77, Tryd.ntmps77
  go_wp2_with (go_at_call 63; refine (HC.out _).mono ?_; rintro e w2 ⟨rfl, rfl⟩)
  go_ret2
  exact ⟨rfl, Below.refl _ _⟩
end Go.Proofs.YtmfjcachghboiaaDoor
namespace Go.Proofs.YtmfjcachghboiaaDoor
open Go.RowKit
theorem grown_set {w wr : World} {g : Nat} (h : w.grownBy wr (some g)) (i : Nat) (u : Value) : w.grownBy (wr.setCell ⟨g, i, none⟩ u) (some g) :=
 ⟨h.os, h.tape, h.output, by show w.heap.size ≤ (wr.heap.modify _ _).size; rw [Array.size_modify]; exact h.size, fun k hk hr => (Below.heap_setCell wr ⟨g, i, none⟩ u k (fun e => hr (congrArg some e))).trans (h.block k hk hr)⟩
theorem grown_drew {w wr : World} {row : Option Nat} (h : w.grownBy wr row) : w.grownBy wr.drew row := ⟨h.os, h.tape, h.output, h.size, h.block⟩
theorem grown_self (w : World) (row : Option Nat) : w.grownBy w row := ⟨rfl, rfl, rfl, Nat.le_refl _, fun _ _ _ => rfl⟩
end Go.Proofs.YtmfjcachghboiaaDoor
namespace Go.Proofs.YtmfjcachghboiaaDoor
open Go.RowKit
theorem wraps63 (n : Int) (h₀ : 0 ≤ n) (h₁ : n < 2 ^ 63) : IntKind.u64.wrap n = n := by rw [IntKind.wrap_u64]; omega
theorem and1 (a : Nat) (h : a < 10000) : bits .and .u64 (a : Int) 1 = ((a % 2 : Nat) : Int) := by
 have := (bits_nat .u64 63 (by decide) wraps63 a 1 (by omega) (by decide)).1; rw [Nat.and_one_is_mod] at this; exact this
abbrev W2 (w : World) (g a b : Nat) : Prop := Blk w g 99 #[.int .u64 a, .int .u64 b]
theorem isR_odd {a b : Nat} (h : a % 2 = 1) : isR a b = true := isR_iff.2 (.inl h)
set_option maxHeartbeats 2000000 in
theorem right_any (g a b : Nat) (w : World) (h : W2 w g a b) (ha : a < 10000) : Calls Tryd.prog 70 #[.pointer (some ⟨g, 0, none⟩)] w fun e w' => e = .returned (.bool (isR a b)) ∧ Below w.heap.size w w' := by
 have c0 : w.cell? ⟨g, 0, none⟩ = some (.int .u64 a) := h.cell 0; have c1 : w.cell? ⟨g, 1, none⟩ = some (.int .u64 b) := h.cell 1; have hl := h.lt; have n0 := fun x : Fut w.heap.size w => (x.cell g 0 hl).trans c0
 have n1 := fun x : Fut w.heap.size w => (x.cell g 1 hl).trans c1
 have hbit := and1 a ha
 by_cases ho : a % 2 = 1
 ·rw [isR_odd ho]; rw [ho] at hbit; clear ho
  go_enter Tryd.func70, Tryd.ntmps70
  go_wp2_with fail
  refine wp_region_fut w.heap.size (by kernel_rfl) (by kernel_rfl) ?_
  repeat (go_big_quiet_step ((first | fail)))
  refine wpQuiet_nil ?_; intro w4 hq'; have hb4 := Fut.of hq'; clear hq'
  go_wp2
  go_ret
  exact ⟨rfl, hb4⟩
 ·rw [show a % 2 = 0 by omega] at hbit; have hr : isR a b = ((a : Int) == (b : Int)) := by
   unfold isR; rw [Bool.eq_iff_iff]
   simp
   omega
  rw [hr]; clear ho hr; cases hq : ((a : Int) == (b : Int))
  all_goals
   go_enter Tryd.func70, Tryd.ntmps70
   go_wp2_with fail
   refine wp_region_fut w.heap.size (by kernel_rfl) (by kernel_rfl) ?_
   repeat (go_big_quiet_step ((first | fail)))
   refine wpQuiet_nil ?_; intro w4 hq'; have hb4 := Fut.of hq'; clear hq'
   go_wp2
   go_ret
   exact ⟨rfl, hb4⟩
def cellN (w : World) (g : Nat) : Nat := match w.cell? ⟨g, 0, none⟩ with | some (.int _ n) => n.toNat | _ => 0
theorem cellN_eq {w : World} {g a b : Nat} (h : W2 w g a b) : cellN w g = a := by
 have c0 : w.cell? ⟨g, 0, none⟩ = some (.int .u64 a) := h.cell 0; unfold cellN; rw [c0]; rfl
theorem w2_half {w : World} {g a b : Nat} (h : W2 w g a b) : W2 ((w.setCell ⟨g, 0, none⟩ (.int .u64 ((a : Int) / 2))).setCell ⟨g, 1, none⟩ (.int .u64 ((b : Int) / 2))).drew g (a / 2) (b / 2) := by
 have := (Blk.set_ (Blk.set_ h 0 (.int .u64 ((a : Int) / 2))) 1 (.int .u64 ((b : Int) / 2))).drew; have e1 : ((a / 2 : Nat) : Int) = (a : Int) / 2 := by omega
 have e2 : ((b / 2 : Nat) : Int) = (b : Int) / 2 := by omega
 unfold W2; rw [e1, e2]; exact this
set_option maxHeartbeats 2000000 in
theorem up_any (g a b : Nat) (lonely : Bool) (w : World) (h : W2 w g a b) (ha : a < 10000) : Calls Tryd.prog 69 #[.pointer (some ⟨g, 0, none⟩), .bool lonely] w fun e w' => (∃ v, e = .returned v) ∧ W2 w' g (if lonely = true then (upT a b).1 else a / 2) (if lonely = true then (upT a b).2 else b / 2) ∧ w.grownBy w' (some g) := by
 go_enter Tryd.func69, Tryd.ntmps69
 go_wp2
 go_loopw [] (fun wr => ∃ a' b' : Nat, W2 wr g a' b' ∧ a' < 10000 ∧ (lonely = false → a' = a ∧ b' = b) ∧ (lonely = true → upT a' b' = upT a b) ∧ w.grownBy wr (some g)) (fun wr => cellN wr g)
 case atStart => exact ⟨a, b, h, ha, fun _ => ⟨rfl, rfl⟩, fun _ => rfl, grown_self _ _⟩
 case round =>
  obtain ⟨a', b', hw, ha', h1, h2, hg⟩ := hrel; have c0 : wr.cell? ⟨g, 0, none⟩ = some (.int .u64 a') := hw.cell 0; have c1 : wr.cell? ⟨g, 1, none⟩ = some (.int .u64 b') := hw.cell 1; have f0 := hw.frozen 0; have f1 := hw.frozen 1; have hbit := and1 a' ha'; have HW := hide hw; have HG := hide hg; have hfin : W2 ((wr.setCell ⟨g, 0, none⟩ (.int .u64 ((a' : Int) / 2))).setCell ⟨g, 1, none⟩ (.int .u64 ((b' : Int) / 2))).drew g (a' / 2) (b' / 2) ∧ w.grownBy ((wr.setCell ⟨g, 0, none⟩ (.int .u64 ((a' : Int) / 2))).setCell ⟨g, 1, none⟩ (.int .u64 ((b' : Int) / 2))).drew (some g) := ⟨w2_half hw, grown_drew (grown_set (grown_set hg _ _) _ _)⟩; have HF := hide hfin; clear hw hg hfin; cases lonely
  ·obtain ⟨rfl, rfl⟩ := h1 rfl; clear h1 h2
   go_wp2_with fail
   go_region
   all_goals
    go_wp2
    go_end0
    exact ⟨⟨_, rfl⟩, HF.out⟩
  ·have hup := h2 rfl; have HU := hide hup; clear h1 h2 hup
   by_cases ho : a' % 2 = 1
   ·rw [ho] at hbit; have HR := hide (upT_odd (b := b') ho); clear ho
    go_wp2_with fail
    go_region
    all_goals
     go_wp2
     go_end0
     exact ⟨⟨_, rfl⟩, by rw [← HU.out, HR.out]; exact HF.out⟩
   ·rw [show a' % 2 = 0 by omega] at hbit
    by_cases hz : a' = 0
    ·subst hz; have HR := hide (show upT 0 b' = (0 / 2, b' / 2) by rw [upT, dif_neg (by omega)]); clear ho
     go_wp2_with fail
     go_region
     all_goals
      go_wp2
      go_end0
      exact ⟨⟨_, rfl⟩, by rw [← HU.out, HR.out]; exact HF.out⟩
    ·have qz : ((a' : Int) != 0) = true := by simp; omega
     have HR := hide (upT_even (b := b') (show a' % 2 = 0 by omega) hz); have HM := hide (cellN_eq HW.out); have HM2 := hide (cellN_eq HF.out.1); have hlt : a' / 2 < a' := by omega
     have HZ := hide hz; clear ho hz
     go_wp2_with fail
     go_region
     all_goals
      go_wp2
      go_roundw
      case rel => exact ⟨a' / 2, b' / 2, HF.out.1, by omega, fun h => (by cases h), fun _ => (by rw [← HU.out, HR.out]), HF.out.2⟩
      case measure => rw [HM.out, HM2.out]; exact hlt
end Go.Proofs.YtmfjcachghboiaaDoor
namespace Go.Proofs.YtmfjcachghboiaaDoor
open Go.RowKit
theorem upT_le : ∀ (n a b : Nat), a ≤ n → (upT a b).1 ≤ a
 | 0, a, b, h => by
  obtain rfl : a = 0 := by omega
  rw [upT, dif_neg (by omega)]; exact Nat.le_refl _
 | n + 1, a, b, h => by
  by_cases hc : a % 2 = 0 ∧ a ≠ 0
  ·rw [upT_even hc.1 hc.2]; exact Nat.le_trans (upT_le n (a / 2) (b / 2) (by omega)) (by omega)
  ·rw [upT, dif_neg hc]
   dsimp only
   omega
def frI (s p : Int) : Int := pairF p s
def flI (s p : Int) : Int := pairF s p
def inclS (root leaf i n : Int) (path : List Int) : Bool := if n < 1 ∨ 4096 < n ∨ i < 0 ∨ n ≤ i then false else decide (wlk frI flI i.toNat (n.toNat - 1) (leafF leaf) path = some root)
set_option maxHeartbeats 4000000 in
theorem included_any (root leaf i n : Int) (A : Option Addr) (c : Nat) (path : List Int) (w : World) (hp : path.length ≤ 9223372036854775807) (h : KS .u64 w A path) :
  Calls Tryd.prog 55 #[.int .u64 root, .int .u64 leaf, .int .i64 i, .int .i64 n, .slice A path.length c] w fun e w' => e = .returned (.bool (inclS root leaf i n path)) ∧ Below w.heap.size w w' := by
 by_cases hbad : n < 1 ∨ 4096 < n ∨ i < 0 ∨ n ≤ i
 ·have hr : inclS root leaf i n path = false := if_pos hbad; rw [hr]; have hcase : decide (n < 1) = true ∨ decide (n < 1) = false ∧ decide (4096 < n) = true ∨ decide (n < 1) = false ∧ decide (4096 < n) = false ∧ decide (i < 0) = true ∨ decide (n < 1) = false ∧ decide (4096 < n) = false ∧ decide (i < 0) = false ∧ decide (n ≤ i) = true := by
   simp only [decide_eq_true_eq, decide_eq_false_iff_not]; omega
  clear hr hbad; rcases hcase with q1 | ⟨q1, q2⟩ | ⟨q1, q2, q3⟩ | ⟨q1, q2, q3, q4⟩
  all_goals
   go_enter Tryd.func55, Tryd.ntmps55
   go_wp2
   go_ret
   exact ⟨rfl, Below.refl _ _⟩
 ·obtain ⟨j, rfl⟩ : ∃ j : Nat, i = j := ⟨i.toNat, by omega⟩; obtain ⟨m, rfl⟩ : ∃ m : Nat, n = m := ⟨n.toNat, by omega⟩; have hr : inclS root leaf j m path = decide (wlk frI flI j (m - 1) (leafF leaf) path = some root) := by unfold inclS; rw [if_neg hbad]; rfl
  have q1 : decide ((m : Int) < 1) = false := decide_eq_false (by omega); have q2 : decide (4096 < (m : Int)) = false := decide_eq_false (by omega); have q3 : decide ((j : Int) < 0) = false := decide_eq_false (by omega); have q4 : decide ((m : Int) ≤ j) = false := decide_eq_false (by omega); have q5 : decide (m ≤ j) = false := decide_eq_false (by omega); have hj : j < 10000 := by omega
  have hm : m ≤ 4096 := by omega
  have hm1 : 1 ≤ m := by omega
  rw [hr]; obtain ⟨res, hres⟩ : ∃ r, r = wlk frI flI j (m - 1) (leafF leaf) path := ⟨_, rfl⟩; rw [← hres]; have HRES := hide hres; have K := hide h; have HK0 := hide h; have BB := hide (Below.refl w.heap.size w); have e1 : ((m - 1 : Nat) : Int) = (m : Int) - 1 := by omega
  have E1 := hide e1; clear hr hbad hres h e1
  go_enter Tryd.func55, Tryd.ntmps55
  go_wp2_with (go_at_call 85; refine (leaf_any _ _).mono ?_; rintro e w2 ⟨rfl, hb⟩; have BB := hide (((Below.refl w.heap.size w).alloc (Nat.le_refl _) (.cells #[.int .u64 (j : Int), .int .u64 ((m : Int) - 1)] 99)).trans (hb.mono (by simp))); have K := hide ((K.out.alloc (.cells #[.int .u64 (j : Int), .int .u64 ((m : Int) - 1)] 99)).then_ hb); have WW := hide (show W2 w2 w.heap.size j (m - 1) by unfold W2; rw [E1.out]; exact (Blk.new w 99 #[.int .u64 (j : Int), .int .u64 ((m : Int) - 1)]).below hb (by simp)); clear hb)
  go_loopw [12, 14, 41] (fun d _ i wr => ∃ (k a b : Nat) (dv : Int), k ≤ path.length ∧ i = .int .i64 k ∧ d = .int .u64 dv ∧ W2 wr w.heap.size a b ∧ a < 10000 ∧ wlk frI flI a b dv (path.drop k) = res ∧ KS .u64 wr A path ∧ Below w.heap.size w wr) (fun _ _ i _ => path.length - (intOf i).toNat)
  case atStart => exact ⟨0, j, m - 1, leafF leaf, Nat.zero_le _, rfl, rfl, WW.out, hj, by rw [HRES.out]; rfl, K.out, BB.out⟩
  case round =>
   clear K BB WW; obtain ⟨k, a, b, dv, hk, rfl, rfl, hw, ha, hwlk, hks, hb⟩ := hrel; have c0 : wr.cell? ⟨w.heap.size, 0, none⟩ = some (.int .u64 a) := hw.cell 0; have c1 : wr.cell? ⟨w.heap.size, 1, none⟩ = some (.int .u64 b) := hw.cell 1; have hlw := hw.lt
   by_cases hlt : k < path.length
   ·obtain ⟨b', o, rfl, hbl, hc⟩ := hks.at_ hlt; have c2 := hc k hlt; rw [List.drop_eq_getElem_cons hlt] at hwlk; obtain ⟨p, hpp⟩ : ∃ p, p = path[k] := ⟨_, rfl⟩; rw [← hpp] at c2 hwlk; clear hc hpp
    by_cases hz : b = 0
    ·subst hz; rw [wlk_end] at hwlk; subst hwlk
     go_wp2
     go_ret
     exact ⟨rfl, hb⟩
    ·have qz : ((b : Int) == 0) = false := by simp; omega
     rw [wlk_cons, if_neg hz] at hwlk; have HW := hide hw; have HB := hide hb; have HK := hide hks; have HR := hide fun W (hh : W2 W w.heap.size a b) => right_any w.heap.size a b W hh ha
     clear hw hb hks; cases hr : isR a b
     ·rw [hr] at HR hwlk; rw [if_neg (by simp)] at hwlk; have HL := hide hwlk; have HU := hide fun W (hh : W2 W w.heap.size a b) => up_any w.heap.size a b false W hh ha
      clear hwlk hr
      go_wp2_with (first
       | (go_at_call 70; refine (HR.out _ HW.out).mono ?_; rintro e w3 ⟨rfl, hb⟩; have HW := hide (HW.out.below hb HW.out.lt); have HB := hide (HB.out.trans (hb.mono HB.out.size)); have HK := hide (HK.out.then_ hb); clear hb)
       | (go_at_call 71; refine (pair_any _ _ _).mono ?_; rintro e w4 ⟨rfl, hb⟩; have HW := hide (HW.out.below hb HW.out.lt); have HB := hide (HB.out.trans (hb.mono HB.out.size)); have HK := hide (HK.out.then_ hb); clear hb)
       | (go_at_call 69; refine (HU.out _ HW.out).mono ?_; rintro e w5 ⟨⟨_, rfl⟩, hw5, hg5⟩; have HB5 := hide (HB.out.grown hg5 HB.out.size (fun g hg => by injection hg with hg; omega)); have HK5 := hide (HK0.out.then_ HB5.out); have HW5 := hide hw5; clear hw5 hg5))
      go_roundw
      case rel => exact ⟨k + 1, a / 2, b / 2, pairF dv p, by omega, by go_num, rfl, HW5.out, by omega, HL.out, HK5.out, HB5.out⟩
      case measure => simp [intOf]; omega
     ·rw [hr] at HR hwlk; rw [if_pos rfl] at hwlk; have HL := hide hwlk; have HU := hide fun W (hh : W2 W w.heap.size a b) => up_any w.heap.size a b true W hh ha
      have hle := upT_le a a b (Nat.le_refl _); clear hwlk hr
      go_wp2_with (first
       | (go_at_call 70; refine (HR.out _ HW.out).mono ?_; rintro e w3 ⟨rfl, hb⟩; have HW := hide (HW.out.below hb HW.out.lt); have HB := hide (HB.out.trans (hb.mono HB.out.size)); have HK := hide (HK.out.then_ hb); clear hb)
       | (go_at_call 71; refine (pair_any _ _ _).mono ?_; rintro e w4 ⟨rfl, hb⟩; have HW := hide (HW.out.below hb HW.out.lt); have HB := hide (HB.out.trans (hb.mono HB.out.size)); have HK := hide (HK.out.then_ hb); clear hb)
       | (go_at_call 69; refine (HU.out _ HW.out).mono ?_; rintro e w5 ⟨⟨_, rfl⟩, hw5, hg5⟩; have HB5 := hide (HB.out.grown hg5 HB.out.size (fun g hg => by injection hg with hg; omega)); have HK5 := hide (HK0.out.then_ HB5.out); have HW5 := hide hw5; clear hw5 hg5))
      go_roundw
      case rel => exact ⟨k + 1, (upT a b).1, (upT a b).2, pairF p dv, by omega, by go_num, rfl, HW5.out, by omega, HL.out, HK5.out, HB5.out⟩
      case measure => simp [intOf]; omega
   ·have hd : path.drop k = [] := List.drop_eq_nil_of_le (by omega); rw [hd] at hwlk
    by_cases hz : b = 0
    ·subst hz; rw [wlk_nil0] at hwlk; subst hwlk; have hre : decide (some dv = some root) = (dv == root) := by rw [Bool.eq_iff_iff]; simp
     have HE := hide hre; clear hre
     go_wp2
     go_ret
     exact ⟨by rw [HE.out]; rfl, hb⟩
    ·have qz : ((b : Int) == 0) = false := by simp; omega
     rw [wlk_nil hz] at hwlk; subst hwlk
     go_wp2
     go_ret
     exact ⟨rfl, hb⟩
end Go.Proofs.YtmfjcachghboiaaDoor
namespace Go.Proofs.YtmfjcachghboiaaDoor
open Go.RowKit
def rvAt (l : List Int) (k i : Nat) : Int := if i < k ∨ l.length ≤ i + k then l.getD (l.length - 1 - i) 0 else l.getD i 0
theorem rvAt_step {l : List Int} {k i : Nat} (hk : (k : Int) < (l.length : Int) - 1 - k) (_ : i < l.length) :
  rvAt l (k + 1) i = if i = l.length - 1 - k then rvAt l k k else if i = k then rvAt l k (l.length - 1 - k) else rvAt l k i := by
 unfold rvAt
 by_cases h1 : i = l.length - 1 - k
 ·subst h1; rw [if_pos rfl, if_pos (by omega), if_neg (by omega), show l.length - 1 - (l.length - 1 - k) = k by omega]
 ·rw [if_neg h1]
  by_cases h2 : i = k
  ·subst h2; rw [if_pos rfl, if_pos (by omega), if_neg (by omega)]
  ·rw [if_neg h2]
   by_cases h3 : i < k ∨ l.length ≤ i + k
   ·rw [if_pos h3, if_pos (by omega)]
   ·rw [if_neg h3, if_neg (by omega)]
theorem rvAt_done {l : List Int} {k i : Nat} (hk : ¬(k : Int) < (l.length : Int) - 1 - k) (hi : i < l.length) : rvAt l k i = l.getD (l.length - 1 - i) 0 := by
 unfold rvAt
 by_cases h3 : i < k ∨ l.length ≤ i + k
 ·rw [if_pos h3]
 ·rw [if_neg h3, show l.length - 1 - i = i by omega]
set_option maxHeartbeats 4000000 in
theorem revK_any (base : Nat) (A : Option Addr) (n c : Nat) (l : List Int) (w : World) (hn : l.length ≤ 10000) (h : OwnK .u64 25 w base (.slice A n c) l) :
  Calls Tryd.prog 66 #[.slice A n c] w fun e w' => (∃ v, e = .returned v) ∧ OwnK .u64 25 w' base (.slice A n c) l.reverse ∧ ∃ row, w.grownBy w' row ∧ ∀ r, row = some r → base ≤ r := by
 obtain ⟨hl, hform⟩ := h; rcases hform with ⟨hv, h0⟩ | ⟨g, cap, cur, hv, hg, hh, hnc, hcm, hcs, htake⟩
 ·injection hv with hA hn0 hc0
  subst hA; subst hn0; subst hc0; obtain rfl : l = [] := List.eq_nil_of_length_eq_zero h0
  go_enter Tryd.func66, Tryd.ntmps66
  go_wp2
  go_loopw [2, 3] (fun i j wr => i = .int .i64 0 ∧ j = .int .i64 (-1) ∧ wr = w) (fun _ _ _ => 0)
  case atStart => exact ⟨rfl, rfl, rfl⟩
  case round =>
   obtain ⟨rfl, rfl, rfl⟩ := hrel
   go_wp2
   go_end0
   exact ⟨⟨_, rfl⟩, World.ownsRow_nil _ _ _ _, none, grown_self _ _, fun r e => by cases e⟩
 ·injection hv with hA hn0 hc0
  subst hA; subst hn0; subst hc0; have hB : Blk w g 25 cur := hh; have hst : ∀ i (hi : i < l.length), cur[i]? = some (.int .u64 (rvAt l 0 i)) := fun i hi => by
   have h1 : (cur.toList.take (l.length * 1))[i]? = (l.map (Value.int .u64))[i]? := by rw [htake]
   rw [List.getElem?_take_of_lt (by omega), Array.getElem?_toList, List.getElem?_map, List.getElem?_eq_getElem hi] at h1; rw [h1, show rvAt l 0 i = l[i] by unfold rvAt; rw [if_neg (by omega), List.getD_eq_getElem?_getD, List.getElem?_eq_getElem hi]; rfl]; rfl
  have HST := hide hst; clear hst
  go_enter Tryd.func66, Tryd.ntmps66
  go_wp2
  go_loopw [2, 3] (fun i j wr => ∃ (k : Nat) (cs : Array Value), k ≤ l.length ∧ i = .int .i64 k ∧ j = .int .i64 ((l.length : Int) - 1 - k) ∧ Blk wr g 25 cs ∧ cs.size = c * 1 ∧ (∀ i, i < l.length → cs[i]? = some (.int .u64 (rvAt l k i))) ∧ w.grownBy wr (some g)) (fun i _ _ => l.length - (intOf i).toNat)
  case atStart => exact ⟨0, cur, Nat.zero_le _, rfl, by simp, hB, hcs, HST.out, grown_self _ _⟩
  case round =>
   obtain ⟨k, cs, hk, rfl, rfl, hb, hsz, hat, hgr⟩ := hrel
   by_cases hlt : (k : Int) < (l.length : Int) - 1 - k
   ·have hkl : k < l.length := by omega
    have hml : l.length - 1 - k < l.length := by omega
    have d1 : decide ((k : Int) < (l.length : Int) - 1 - k) = true := by simpa using hlt
    have hm0 : (0 : Int) ≤ (l.length : Int) - 1 - (k : Int) := by omega
    have hm1 : (l.length : Int) - 1 - (k : Int) < l.length := by omega
    have hm2 : (k : Int) ≤ (l.length : Int) - 1 := by omega
    have ck := hat k hkl; have cm := hat _ hml; obtain ⟨x, hx⟩ : ∃ x, x = rvAt l k k := ⟨_, rfl⟩; obtain ⟨y, hy⟩ : ∃ x, x = rvAt l k (l.length - 1 - k) := ⟨_, rfl⟩; rw [← hx] at ck; rw [← hy] at cm; have a0 := (hb.cell k).trans ck; have b0 := (hb.cell (l.length - 1 - k)).trans cm; have f0 := hb.frozen k; have g0 := hb.frozen (l.length - 1 - k); have HB := hide hb; have HA := hide hat; have HX := hide hx; have HY := hide hy; have HL := hide hlt; clear hat hx hy ck cm htake hb
    go_wp2_with fail
    go_region_law (fail)
    all_goals
     go_wp2
     go_roundw
     case rel =>
      refine ⟨k + 1, (cs.setIfInBounds k (.int .u64 y)).setIfInBounds (l.length - 1 - k) (.int .u64 x), by omega, by go_num, by simp; omega, ?_, by simpa using hsz, fun i hi => ?_, ?_⟩
      ·with_reducible exact ((HB.out.set_ k (.int .u64 y)).set_ (l.length - 1 - k) (.int .u64 x)).drew
      ·rw [rvAt_step HL.out hi]
       by_cases h1 : i = l.length - 1 - k
       ·rw [if_pos h1, h1, ← HX.out, Array.getElem?_setIfInBounds_self_of_lt (by simp; omega)]
       ·rw [if_neg h1, Array.getElem?_setIfInBounds_ne (by omega)]
        by_cases h2 : i = k
        ·rw [if_pos h2, h2, ← HY.out, Array.getElem?_setIfInBounds_self_of_lt (by omega)]
        ·rw [if_neg h2, Array.getElem?_setIfInBounds_ne (by omega)]; exact HA.out i hi
      ·with_reducible exact grown_drew (grown_set (grown_set hgr _ _) _ _)
     case measure => simp [intOf]; omega
   ·have d1 : decide ((k : Int) < (l.length : Int) - 1 - k) = false := by simpa using hlt
    have HA := hide hat; have HB := hide hb; have HN := hide hlt; clear hat hb hlt
    go_wp2
    go_end0
    refine ⟨⟨_, rfl⟩, ⟨by simp, .inr ⟨g, c, cs, by rw [List.length_reverse], hg, HB.out, by rw [List.length_reverse]; exact hnc, hcm, hsz, ?_⟩⟩, some g, hgr, fun r e => by cases e; exact hg⟩; rw [List.length_reverse, Nat.mul_one]; refine List.ext_getElem? fun i => ?_
    by_cases hi : i < l.length
    ·rw [List.getElem?_take_of_lt hi, Array.getElem?_toList, HA.out i hi, rvAt_done (Int.not_lt.2 HN.out) hi, List.getElem?_map, List.getElem?_reverse hi, List.getD_eq_getElem?_getD, List.getElem?_eq_getElem (by omega)]; rfl
    ·rw [List.getElem?_eq_none (by simp; omega), List.getElem?_eq_none (by simp; omega)]
theorem infoU : (Tryd.prog.info? 25).map (fun i => (i.zero, i.size, i.bytes)) = some (some (.int .u64 0), 1, 8) := by kernel_rfl
end Go.Proofs.YtmfjcachghboiaaDoor
namespace Go.Proofs.YtmfjcachghboiaaDoor
open Go.RowKit
set_option maxRecDepth 100000 in
theorem OwnK.rd {k : IntKind} {e : TypeId} {w : World} {base n c : Nat} {A : Option Addr} {l : List Int} (h : OwnK k e w base (.slice A n c) l) : KS k w A l := by
 obtain ⟨A', c', hv, _, _, hk⟩ := h.form
 injection hv with e1 e2 e3
 subst e1; exact hk
end Go.Proofs.YtmfjcachghboiaaDoor
namespace Go.Proofs.YtmfjcachghboiaaDoor
open Go.RowKit
def lenV : Value → Nat | .slice _ n _ => n | _ => 0
theorem OwnK.weak {k : IntKind} {e : TypeId} {w : World} {b1 b2 : Nat} {v : Value} {l : List Int} (h : OwnK k e w b1 v l) (hb : b2 ≤ b1) : OwnK k e w b2 v l := by
 refine ⟨h.1, ?_⟩; rcases h.2 with h2 | ⟨g, cap, cur, hv, hg, r⟩
 ·exact .inl h2
 ·exact .inr ⟨g, cap, cur, hv, by omega, r⟩
def inclF (l : List Int) (i : Nat) : List Int := inclT leafF pairF l i
theorem inclF_left {l : List Int} {i : Nat} (h : 2 ≤ l.length) (hi : i < hf l.length) : inclF l i = inclF (l.take (hf l.length)) i ++ [rootF (l.drop (hf l.length))] := inclT_left h hi
theorem inclF_right {l : List Int} {i : Nat} (h : 2 ≤ l.length) (hi : ¬i < hf l.length) : inclF l i = inclF (l.drop (hf l.length)) (i - hf l.length) ++ [rootF (l.take (hf l.length))] := inclT_right h hi
def incS (l : List Int) (i : Int) : List Int × Int := if checkS l ≠ 0 then ([], checkS l) else if i < 0 ∨ (l.length : Int) ≤ i then ([], 1) else (inclF l i.toNat, 0)
set_option maxHeartbeats 4000000 in
theorem Include_anyF (A : Option Addr) (c : Nat) (l : List Int) (i : Int) (w : World) (hc : l.length ≤ c) (h : KS .u64 w A l) :
  Calls Tryd.prog 52 #[.slice A l.length c, .int .i64 i] w fun e w' => ∃ A' c', e = .returned (.tuple #[.slice A' (incS l i).1.length c', .int .i64 (incS l i).2]) ∧ (incS l i).1.length ≤ c' ∧ c' ≤ maxLen ∧ (KS .u64 w' A' (incS l i).1 ∧ FrA w A') ∧ Below w.heap.size w w' := by
 have HC := hide fun W => check_any A c l W
 unfold incS
 by_cases hk : checkS l = 0
 ·obtain ⟨h1, h2⟩ := checkS_ok hk; rw [if_neg (by simpa using hk)]; rw [hk] at HC; clear hk
  by_cases hbad : i < 0 ∨ (l.length : Int) ≤ i
  ·rw [if_pos hbad]; have hcase : decide (i < 0) = true ∨ decide (i < 0) = false ∧ decide ((l.length : Int) ≤ i) = true := by
    simp only [decide_eq_true_eq, decide_eq_false_iff_not]; omega
   clear hbad; rcases hcase with q1 | ⟨q1, q2⟩
   all_goals
    go_enter Tryd.func52, Tryd.ntmps52
    go_wp2_with (go_at_call 63; refine (HC.out _).mono ?_; rintro e w2 ⟨rfl, rfl⟩)
    go_ret2
    exact ⟨none, 0, rfl, Nat.le_refl _, by simp [maxLen], ⟨Rd.nil _ _, fun _ _ h => by cases h⟩, Below.refl _ _⟩
  ·rw [if_neg hbad]; obtain ⟨j, rfl⟩ : ∃ j : Nat, i = j := ⟨i.toNat, by omega⟩; have q1 : decide ((j : Int) < 0) = false := decide_eq_false (by omega); have q2 : decide ((l.length : Int) ≤ j) = false := decide_eq_false (by omega); have q3 : decide (l.length ≤ j) = false := decide_eq_false (by omega); obtain ⟨b, o, rfl, hbl, hcell⟩ := h.at_ (i := 0) (by omega); have hjl : j < l.length := by omega
   obtain ⟨res, hres⟩ : ∃ r, r = inclF l j := ⟨_, rfl⟩; obtain ⟨i0, hi, hz0, hz1, hz2⟩ := info_parts infoU; rw [Int.toNat_natCast, ← hres]; have HRES := hide hres; have K := hide h; clear hbad hcell h hres
   go_enter Tryd.func52, Tryd.ntmps52
   go_wp2_with (go_at_call 63; refine (HC.out _).mono ?_; rintro e w2 ⟨rfl, rfl⟩)
   go_loopw [0, 1, 7, 8, 9] (fun u0 u1 u7 _ _ wr => ∃ (b' o' c' : Nat) (l' : List Int) (i' : Nat) (path : List Int), u0 = .slice (some ⟨b', o', none⟩) l'.length c' ∧ l'.length ≤ c' ∧ 1 ≤ l'.length ∧ u1 = .int .i64 i' ∧ i' < l'.length ∧ KS .u64 w (some ⟨b', o', none⟩) l' ∧ OwnK .u64 25 wr w.heap.size u7 path ∧ path.length + l'.length ≤ l.length ∧ inclF l' i' ++ path.reverse = res ∧ Below w.heap.size w wr) (fun u0 _ _ _ _ _ => lenV u0)
   case atStart => exact ⟨b, o, c, l, j, [], rfl, hc, h1, rfl, hjl, K.out, OwnK.nil, by simp, by simp [HRES.out], Below.refl _ _⟩
   case round =>
    clear K HRES hbl hc HC
    rename World => wo
    obtain ⟨b', o', c', l', i', path, rfl, hlc, hl1, rfl, hil, hks, ho, hpl, hpath, hb⟩ := hrel
    by_cases hn : 2 ≤ l'.length
    ·have d1 : decide (1 < (l'.length : Int)) = true := decide_eq_true (by omega); have d2 : decide (1 < l'.length) = true := decide_eq_true (by omega); obtain ⟨s1, s2, s3⟩ := hf_spec hn; have PP := hide fun W => parts_any b' o' c' l'.length W hn (by omega) hlc
     have K1 := hide (KS.pre hks (hf l'.length)); have K2 := hide (KS.shift hks (n := hf l'.length) (by omega)); have HB := hide hb; have HO := hide ho; have HL := hide (@inclF_left l' i' hn); have HR := hide (@inclF_right l' i' hn); have HP := hide hpath; have R1 := hide fun W (s : KS .u64 W (some ⟨b', o', none⟩) (l'.take (hf l'.length))) => root_any (hf l'.length) (some ⟨b', o', none⟩) (hf l'.length) _ W (by simp; omega) s1 (by omega) (Nat.le_refl _) s
     have R2 := hide fun W (s : KS .u64 W (some ⟨b', o' + hf l'.length, none⟩) (l'.drop (hf l'.length))) => root_any (l'.length - hf l'.length) (some ⟨b', o' + hf l'.length, none⟩) (l'.length - hf l'.length) _ W (by simp) (by omega) (by omega) (Nat.le_refl _) s
     clear hks hb ho hpath hlc; obtain ⟨k, hk⟩ : ∃ k, k = hf l'.length := ⟨_, rfl⟩; rw [← hk] at PP s1 s2 s3 K1 K2 HL HR R1 R2; clear hk
     by_cases hik : i' < k
     ·have d3 : decide ((i' : Int) < (k : Int)) = true := decide_eq_true (by omega); have d4 : decide (i' < k) = true := decide_eq_true (by omega); have HP2 := hide (show inclF (l'.take k) i' ++ (path ++ [rootF (l'.drop k)]).reverse = res by rw [← HP.out, HL.out hik]; simp); clear HL HR R1 HP
      go_wp2_with (first
       | (go_at_call 64; refine (PP.out _).mono ?_; rintro e w2 ⟨rfl, hb⟩; have HB := hide (HB.out.trans (hb.mono HB.out.size)); have HO := hide (HO.out.below hb); clear hb)
       | (go_at_call 65; with_reducible refine (R2.out _ (K2.out.then_ HB.out)).mono ?_; rintro e w3 ⟨rfl, hb⟩; have HB := hide (HB.out.trans (hb.mono HB.out.size)); have HO := hide (HO.out.below hb); clear hb)
       | (at_builtin; refine wpList_append_rd _ rfl _ _ 34 rfl w.heap.size 25 i0 _ 1 8 Tryd.underlying34 hi hz0 hz1 hz2 rfl (by decide) _ _ _ rfl (OwnK.below HO.out ((Below.refl _ _).alloc (Nat.le_refl _) _)) (some ⟨w3.heap.size, 0, none⟩) 1 1 [.int .u64 (rootF (l'.drop k))] rfl rfl (Rd.new_row _ _ _) (by simp [Value.oneCell']) (by simp only [maxLen]; omega) (by omega) (by have := HB.out.size; simp; omega) ?_; intro v' w6 hown' hgrow _; have HB6 := hide ((HB.out.alloc HB.out.size _).grown hgrow (by have := HB.out.size; simp; omega) (fun g hg => (HO.out.lt g hg).1)); have HO6 := hide (OwnK.snoc hown' rfl rfl); clear hown' hgrow))
      go_roundw
      case rel => exact ⟨b', o', k, l'.take k, i', path ++ [rootF (l'.drop k)], by rw [List.length_take, Nat.min_eq_left (by omega)], by simp; omega, by simp; omega, rfl, by rw [List.length_take, Nat.min_eq_left (by omega)]; exact hik, K1.out, HO6.out, by simp; omega, HP2.out, HB6.out⟩
      case measure => simp [lenV]; omega
     ·have d3 : decide ((i' : Int) < (k : Int)) = false := decide_eq_false (by omega); have d4 : decide (i' < k) = false := decide_eq_false (by omega); have HP2 := hide (show inclF (l'.drop k) (i' - k) ++ (path ++ [rootF (l'.take k)]).reverse = res by rw [← HP.out, HR.out hik]; simp); have p1 : (0 : Int) ≤ (i' : Int) - k := by omega
      have p2 : (i' : Int) - k ≤ 10000 := by omega
      have p3 := hide (show ((i' - k : Nat) : Int) = (i' : Int) - k by omega); clear HL HR R2 HP
      go_wp2_with (first
       | (go_at_call 64; refine (PP.out _).mono ?_; rintro e w2 ⟨rfl, hb⟩; have HB := hide (HB.out.trans (hb.mono HB.out.size)); have HO := hide (HO.out.below hb); clear hb)
       | (go_at_call 65; with_reducible refine (R1.out _ (K1.out.then_ HB.out)).mono ?_; rintro e w3 ⟨rfl, hb⟩; have HB := hide (HB.out.trans (hb.mono HB.out.size)); have HO := hide (HO.out.below hb); clear hb)
       | (at_builtin; refine wpList_append_rd _ rfl _ _ 34 rfl w.heap.size 25 i0 _ 1 8 Tryd.underlying34 hi hz0 hz1 hz2 rfl (by decide) _ _ _ rfl (OwnK.below HO.out ((Below.refl _ _).alloc (Nat.le_refl _) _)) (some ⟨w3.heap.size, 0, none⟩) 1 1 [.int .u64 (rootF (l'.take k))] rfl rfl (Rd.new_row _ _ _) (by simp [Value.oneCell']) (by simp only [maxLen]; omega) (by omega) (by have := HB.out.size; simp; omega) ?_; intro v' w6 hown' hgrow _; have HB6 := hide ((HB.out.alloc HB.out.size _).grown hgrow (by have := HB.out.size; simp; omega) (fun g hg => (HO.out.lt g hg).1)); have HO6 := hide (OwnK.snoc hown' rfl rfl); clear hown' hgrow))
      go_roundw
      case rel => exact ⟨b', o' + k, l'.length - k, l'.drop k, i' - k, path ++ [rootF (l'.take k)], by rw [List.length_drop], by simp, by simp; omega, by rw [p3.out], by simp; omega, K2.out, HO6.out, by simp; omega, HP2.out, HB6.out⟩
      case measure => simp [lenV]; omega
    ·have d1 : decide (1 < (l'.length : Int)) = false := decide_eq_false (by omega); have d2 : decide (1 < l'.length) = false := decide_eq_false (by omega); rw [show inclF l' i' = [] from inclT_one hn, List.nil_append] at hpath; subst hpath; obtain ⟨A7, c7, rfl, hl7, hm7, hk7⟩ := ho.form; have REV := hide (fun W (s : OwnK .u64 25 W w.heap.size (.slice A7 path.length c7) path) => revK_any w.heap.size A7 path.length c7 path W (by omega) s); have HO := hide ho; have HB := hide hb; clear hn hk7 ho hb hks
     go_wp2_with (go_at_call 66; refine (REV.out _ HO.out).mono ?_; rintro e w2 ⟨⟨_, rfl⟩, ho2, row, hg2, hr2⟩; have HO := hide ho2; have HB := hide (HB.out.grown hg2 HB.out.size hr2); clear ho2 hg2 hr2)
     go_ret2
     obtain ⟨A8, c8, h8, hl8, hm8, hk8⟩ := HO.out.form
     injection h8 with h8a h8b h8c
     subst h8a h8c; exact ⟨A7, c7, by rw [List.length_reverse]; rfl, hl8, hm8, ⟨hk8, HO.out.fresh⟩, HB.out⟩
 ·rw [if_pos hk]; obtain ⟨x, hx⟩ : ∃ x, x = checkS l := ⟨_, rfl⟩; rw [← hx] at HC hk ⊢; have q : (x != 0) = true := by simp [hk]
  clear hk hx
  go_enter Tryd.func52, Tryd.ntmps52
  go_wp2_with (go_at_call 63; refine (HC.out _).mono ?_; rintro e w2 ⟨rfl, rfl⟩)
  go_ret2
  exact ⟨none, 0, rfl, Nat.le_refl _, by simp [maxLen], ⟨Rd.nil _ _, fun _ _ h => by cases h⟩, Below.refl _ _⟩
end Go.Proofs.YtmfjcachghboiaaDoor
namespace Go.Proofs.YtmfjcachghboiaaDoor
open Go.RowKit
end Go.Proofs.YtmfjcachghboiaaDoor
namespace Go.Proofs.YtmfjcachghboiaaDoor
open Go.RowKit
end Go.Proofs.YtmfjcachghboiaaDoor
namespace Go.Proofs.YtmfjcachghboiaaDoor
open Go.RowKit
end Go.Proofs.YtmfjcachghboiaaDoor
namespace Go.Proofs.YtmfjcachghboiaaDoor
open Go.RowKit
set_option maxHeartbeats 1000000 in
theorem rPair_any (a b : Int) (w : World) : Calls Tryd.prog 89 #[.int .u64 a, .int .u64 b] w fun e w' => e = .returned (.int .u64 (pairF a b)) ∧ Below w.heap.size w w' := by
 obtain ⟨i0, hi, hz0, hz1, hz2⟩ := info_parts infoB; have HS := hide fun A c l W hn s => rSum_any A c l W hn s
 have O1 := hide (show OwnK .u8 5 (w.alloc (.cells #[.int .u8 1] 5)) w.heap.size (.slice (some ⟨w.heap.size, 0, none⟩) 1 1) [1] from ⟨rfl, .inr ⟨w.heap.size, 1, #[.int .u8 1], rfl, Nat.le_refl _, heap_alloc_new w _, Nat.le_refl _, by simp [maxLen], rfl, rfl⟩⟩); have B1 := hide ((Below.refl w.heap.size w).alloc (Nat.le_refl _) (.cells #[.int .u8 1] 5))
 go_enter Tryd.func89, Tryd.ntmps89
 go_upto_region 2 with (first
  | (go_at_call 72; refine (eight_any a _).mono ?_; rintro e w2 ⟨v2, rfl, ho2, hb2⟩; have O2 := hide (O1.out.below hb2); have B2 := hide (B1.out.trans (hb2.mono B1.out.size)); obtain ⟨A2, c2, rfl, hl2, hm2, hk2⟩ := ho2.form; have K2 := hide hk2; clear ho2 hb2 hk2)
  | (at_builtin; refine wpList_append_rd _ rfl _ _ 102 rfl w.heap.size 5 i0 _ 1 1 Tryd.underlying102 hi hz0 hz1 hz2 rfl (by decide) _ _ _ rfl O2.out A2 8 c2 ((octL a).map (Value.int .u8)) rfl rfl K2.out (kone _) (by simp [maxLen]) (by simp) B2.out.size ?_; intro v6 w6 hown6 hgrow6 _; have O6 := hide (show OwnK .u8 5 w6 w.heap.size v6 ([1] ++ octL a) from OwnK.app hown6 rfl rfl); have B6 := hide (B2.out.grown hgrow6 B2.out.size (fun g hg => (O2.out.lt g hg).1)); clear hown6 hgrow6))
 go_wp2_with (first
  | (go_at_call 72; refine (eight_any b _).mono ?_; rintro e w7 ⟨v7, rfl, ho7, hb7⟩; have O7 := hide (O6.out.below hb7); have B7 := hide (B6.out.trans (hb7.mono B6.out.size)); obtain ⟨A7, c7, rfl, hl7, hm7, hk7⟩ := ho7.form; have K7 := hide hk7; clear ho7 hb7 hk7)
  | (at_builtin; refine wpList_append_rd _ rfl _ _ 102 rfl w.heap.size 5 i0 _ 1 1 Tryd.underlying102 hi hz0 hz1 hz2 rfl (by decide) _ _ _ rfl O7.out A7 8 c7 ((octL b).map (Value.int .u8)) rfl rfl K7.out (kone _) (by simp [maxLen, octL]) (by simp [octL]) B7.out.size ?_; intro v8 w8 hown8 hgrow8 _; have O8 := hide (show OwnK .u8 5 w8 w.heap.size v8 ([1] ++ octL a ++ octL b) from OwnK.app hown8 rfl rfl); have B8 := hide (B7.out.grown hgrow8 B7.out.size (fun g hg => (O7.out.lt g hg).1)); obtain ⟨A8, c8, rfl, hl8, hm8, hk8⟩ := O8.out.form; have K8 := hide hk8; clear hown8 hgrow8 hk8)
  | (go_at_call 74; refine (HS.out A8 c8 _ _ (by simp [octL]) K8.out).mono ?_; rintro e w4 ⟨rfl, rfl⟩))
 go_ret
 exact ⟨rfl, B8.out⟩
theorem hf_eq {e n : Nat} (h1 : 2 ^ e < n) (h2 : n ≤ 2 * 2 ^ e) : 2 ^ e = hf n := by
 have h3 := hf_max h1; have hn : 2 ≤ n := by have := Nat.two_pow_pos e; omega
 obtain ⟨s1, s2, s3⟩ := hf_spec hn; have h4 : hf n < 2 ^ (e + 1) := by rw [Nat.pow_succ]; omega
 unfold hf at h4 h3 ⊢; have := pow_le_iff h4; have := Nat.pow_le_pow_right (n := 2) (by omega) (show Nat.log2 (n - 1) ≤ e by omega); omega
theorem rHalf_any (n : Nat) (w : World) (h : 2 ≤ n) (hn : n ≤ 10000) : Calls Tryd.prog 88 #[.int .i64 n] w fun e w' => e = .returned (.int .i64 (hf n)) ∧ w = w' := by
 go_enter Tryd.func88, Tryd.ntmps88
 go_wp2
 go_loopw [3] (fun u wr => ∃ k : Nat, u = .int .i64 k ∧ (∃ e, k = 2 ^ e) ∧ 1 ≤ k ∧ k < n ∧ wr = w) (fun u _ => n - (intOf u).toNat)
 case atStart => exact ⟨1, rfl, ⟨0, rfl⟩, Nat.le_refl _, by omega, rfl⟩
 case round =>
  obtain ⟨k, rfl, hp, hk1, hkn, rfl⟩ := hrel; have p1 : (0 : Int) ≤ 2 * (k : Int) := by omega
  have p2 : 2 * (k : Int) ≤ 20000 := by omega
  by_cases hlt : 2 * k < n
  ·have d1 : decide (2 * (k : Int) < (n : Int)) = true := decide_eq_true (by omega); have HP := hide (show ∃ e, 2 * k = 2 ^ e by obtain ⟨e, rfl⟩ := hp; exact ⟨e + 1, by rw [Nat.pow_succ]; omega⟩); clear hp
   go_wp2
   go_roundw
   case rel => exact ⟨2 * k, by go_num, HP.out, by omega, hlt, by trivial⟩
   case measure => simp [intOf]; omega
  ·have d1 : decide (2 * (k : Int) < (n : Int)) = false := decide_eq_false (by omega); have HP := hide (show k = hf n by obtain ⟨e, rfl⟩ := hp; exact hf_eq hkn (by omega)); clear hp
   go_wp2
   go_ret
   exact ⟨by rw [← HP.out]; rfl, rfl⟩
set_option maxHeartbeats 2000000 in
theorem rroot_any : ∀ (n : Nat) (A : Option Addr) (c : Nat) (l : List Int) (w : World), l.length = n → 1 ≤ n → n ≤ 10000 → n ≤ c → KS .u64 w A l →
  Calls Tryd.prog 82 #[.slice A n c] w fun e w' => e = .returned (.int .u64 (rootF l)) ∧ Below w.heap.size w w' := by
 intro n
 induction n using Nat.strongRecOn with
 | ind n ih =>
  intro A c l w hl h1 hn hc h; obtain ⟨b, o, rfl, hbl, hcell⟩ := h.at_ (i := 0) (by omega)
  by_cases hn2 : 2 ≤ n
  ·have hsp := rootT_split (lf := leafF) (pr := pairF) (l := l) (by omega); rw [hl] at hsp; obtain ⟨s1, s2, s3⟩ := hf_spec hn2; have HH := hide fun W => rHalf_any n W hn2 hn
   have hsh := KS.shift (n := hf n) h (by omega); obtain ⟨k, hk⟩ : ∃ k, k = hf n := ⟨_, rfl⟩; rw [← hk] at HH s1 s2 s3 hsp hsh; have hne : ((n : Int) == 1) = false := by simp; omega
   have p1 : (0 : Int) ≤ k := by omega
   have p2 : (k : Int) ≤ n := by omega
   have p3 : (k : Int) ≤ c := by omega
   have p4 : ¬ c = k := by omega
   have R1 := hide fun (x : Fut w.heap.size w) => ih k s2 (some ⟨b, o, none⟩) c (l.take k) x.v (by simp; omega) s1 (by omega) (by omega) (KS.below (h.pre k) x.h (Nat.le_refl _))
   have R2 := hide fun (x : Fut w.heap.size w) => ih (n - k) (by omega) (some ⟨b, o + k, none⟩) (c - k) (l.drop k) x.v (by simp; omega) (by omega) (by omega) (by omega) (KS.below hsh x.h (Nat.le_refl _))
   have HSP := hide hsp; clear hsp ih hk hsh hcell h; obtain ⟨u, hx⟩ : ∃ x, x = rootF (l.take k) := ⟨_, rfl⟩; obtain ⟨v, hy⟩ : ∃ x, x = rootF (l.drop k) := ⟨_, rfl⟩; have HX := hide hx; have HY := hide hy; rw [← hx] at R1; rw [← hy] at R2; clear hx hy
   go_enter Tryd.func82, Tryd.ntmps82
   go_upto_region 4 with (go_at_call 88; refine (HH.out _).mono ?_; rintro e w2 ⟨rfl, rfl⟩)
   refine wp_region_fut w.heap.size (by kernel_rfl) (by kernel_rfl) ?_
   repeat (go_big_quiet_step ((first | (go_at_call 82; (first | with_reducible exact Fut.call (Nat.le_refl _) (R1.out _) | with_reducible exact Fut.call (Nat.le_refl _) (R2.out _))) | (go_at_call 89; exact Fut.call (Nat.le_refl _) (rPair_any _ _ _)))))
   refine wpQuiet_nil ?_; intro w4 hq'; have hb4 := Fut.of hq'; clear hq'
   go_wp2
   go_ret
   exact ⟨by rw [show rootF l = pairF u v by rw [HX.out, HY.out]; exact HSP.out]; rfl, hb4⟩
  ·obtain rfl : n = 1 := by omega
   have hr : rootF l = leafF l[0] := by
    unfold rootF; rw [rootT_one (by omega)]
    congr 1
    cases l with
    | nil => simp at hl
    | cons x l => rfl
   rw [hr]; have c0 := hcell 0 (by omega); rw [Nat.add_zero] at c0; clear hr hcell ih
   go_enter Tryd.func82, Tryd.ntmps82
   go_wp2_with (go_at_call 87; refine (rLeaf_any _ _).mono ?_; rintro e w2 ⟨rfl, hb⟩)
   go_ret
   exact ⟨rfl, hb⟩
theorem rcheck_any (A : Option Addr) (c : Nat) (l : List Int) (w : World) : Calls Tryd.prog 81 #[.slice A l.length c] w fun e w' => e = .returned (.int .i64 (checkS l)) ∧ w = w' := by
 unfold checkS; obtain ⟨n, hn⟩ : ∃ n, n = l.length := ⟨_, rfl⟩; rw [← hn]; clear hn
 by_cases h0 : n = 0
 ·subst h0
  go_enter Tryd.func81, Tryd.ntmps81
  go_wp2
  go_ret
  exact ⟨rfl, rfl⟩
 ·have q0 : decide ((n : Int) < 1) = false := decide_eq_false (by omega)
  by_cases h1 : 4096 < n
  ·have q1 : decide (4096 < (n : Int)) = true := by simp; omega
   rw [if_neg h0, if_pos h1]
   go_enter Tryd.func81, Tryd.ntmps81
   go_wp2
   go_ret
   exact ⟨rfl, rfl⟩
  ·have q1 : decide (4096 < (n : Int)) = false := by simp; omega
   rw [if_neg h0, if_neg h1]
   go_enter Tryd.func81, Tryd.ntmps81
   go_wp2
   go_ret
   exact ⟨rfl, rfl⟩
theorem rRoot_any (A : Option Addr) (c : Nat) (l : List Int) (w : World) (hc : l.length ≤ c) (h : KS .u64 w A l) :
  Calls Tryd.prog 45 #[.slice A l.length c] w fun e w' => e = .returned (.tuple #[.int .u64 (rootS l).1, .int .i64 (rootS l).2]) ∧ Below w.heap.size w w' := by
 have HC := hide fun W => rcheck_any A c l W
 unfold rootS
 by_cases hk : checkS l = 0
 ·obtain ⟨h1, h2⟩ := checkS_ok hk; have R := hide (rroot_any l.length A c l w rfl h1 (by omega) hc h); rw [if_neg (by simpa using hk)]; rw [hk] at HC; clear hk
  go_enter Tryd.func45, Tryd.ntmps45
  go_wp2_with (first
   | (go_at_call 81; refine (HC.out _).mono ?_; rintro e w2 ⟨rfl, rfl⟩)
   | (go_at_call 82; refine R.out.mono ?_; rintro e w3 ⟨rfl, hb⟩))
  go_ret2
  exact ⟨rfl, hb⟩
 ·rw [if_pos hk]; obtain ⟨x, hx⟩ : ∃ x, x = checkS l := ⟨_, rfl⟩; rw [← hx] at HC hk ⊢; have q : (x != 0) = true := by simp [hk]
  clear hk hx
  go_enter Tryd.func45, Tryd.ntmps45
  go_wp2_with (go_at_call 81; refine (HC.out _).mono ?_; rintro e w2 ⟨rfl, rfl⟩)
  go_ret2
  exact ⟨rfl, Below.refl _ _⟩
end Go.Proofs.YtmfjcachghboiaaDoor
namespace Go.Proofs.YtmfjcachghboiaaDoor
open Go.RowKit
def leadF (d : Int) (i n : Nat) (path : List Int) : Int × Bool := leadJ leafF pairF d i n path
theorem last_cell {w : World} {b o : Nat} {ps : List Int} {p : Int} (h : ∀ i (hi : i < (ps ++ [p]).length), w.cell? ⟨b, o + i, none⟩ = some (.int .u64 (ps ++ [p])[i])) : w.cell? ⟨b, o + ps.length, none⟩ = some (.int .u64 p) := by
 have := h ps.length (by simp); rw [this]; simp
theorem ks_init {w : World} {A : Option Addr} {ps : List Int} {p : Int} (h : KS .u64 w A (ps ++ [p])) : KS .u64 w A ps := by simpa using h.pre ps.length
set_option maxHeartbeats 4000000 in
theorem rlead_any : ∀ (n i : Nat) (d : Int) (A : Option Addr) (c : Nat) (path : List Int) (w : World), n ≤ 10000 → i < n → path.length ≤ 100 → path.length ≤ c → KS .u64 w A path →
  Calls Tryd.prog 62 #[.int .u64 d, .int .i64 i, .int .i64 n, .slice A path.length c] w fun e w' => e = .returned (.tuple #[.int .u64 (leadF d i n path).1, .bool (leadF d i n path).2]) ∧ Below w.heap.size w w' := by
 intro n
 induction n using Nat.strongRecOn with
 | ind n ih =>
  intro i d A c path w hn hin hL hc h
  by_cases hn2 : 2 ≤ n
  ·obtain ⟨s1, s2, s3⟩ := hf_spec hn2; have hne : ((n : Int) == 1) = false := by simp; omega
   rcases snoc_cases path with rfl | ⟨ps, p, rfl⟩
   ·have HE := hide (show leadF d i n [] = (0, false) from leadJ_nil hn2); rw [HE.out]; clear ih h
    go_enter Tryd.func62, Tryd.ntmps62
    go_wp2
    go_ret2
    exact ⟨rfl, Below.refl _ _⟩
   ·have HL := hide (@leadJ_left leafF pairF d i n ps p hn2); have HR := hide (@leadJ_right leafF pairF d i n ps p hn2); obtain ⟨b, o, rfl, hbl, hcell⟩ := h.at_ (i := ps.length) (by simp); have cp := last_cell hcell; have hp := ks_init h; have HH := hide fun W => rHalf_any n W hn2 hn
    have hlen : (ps ++ [p]).length = ps.length + 1 := by simp
    rw [hlen] at hL hc ⊢; obtain ⟨L, hLe⟩ : ∃ L, L = ps.length := ⟨_, rfl⟩; obtain ⟨k, hk⟩ : ∃ k, k = hf n := ⟨_, rfl⟩; rw [← hk] at HH s1 s2 s3 HL HR; rw [← hLe] at cp hL hc ⊢; have p1 : ((L : Int) + 1 == 0) = false := by simp; omega
    clear hcell hlen h
    by_cases hik : i < k
    ·have d3 : decide ((i : Int) < (k : Int)) = true := decide_eq_true (by omega); have d4 : decide (i < k) = true := decide_eq_true (by omega); have I1 := hide (ih k s2 i d (some ⟨b, o, none⟩) c ps w (by omega) hik (by omega) (by omega) hp); obtain ⟨x, hx⟩ : ∃ x, x = (leadF d i k ps).1 := ⟨_, rfl⟩; obtain ⟨y, hy⟩ : ∃ x, x = (leadF d i k ps).2 := ⟨_, rfl⟩; have HE := hide (show leadF d i n (ps ++ [p]) = (pairF x p, y) by rw [hx, hy]; exact HL.out hik); rw [HE.out]; rw [← hx, ← hy, ← hLe] at I1; clear hp HL HR ih hk hik hx hy hLe
     go_enter Tryd.func62, Tryd.ntmps62
     go_wp2_with (first
      | (go_at_call 88; refine (HH.out _).mono ?_; rintro e w2 ⟨rfl, rfl⟩)
      | (go_at_call 62; with_reducible refine I1.out.mono ?_; rintro e w3 ⟨rfl, hb3⟩)
      | (go_at_call 89; refine (rPair_any _ _ _).mono ?_; rintro e w4 ⟨rfl, hb4⟩))
     go_ret2
     exact ⟨rfl, hb3.trans (hb4.mono hb3.size)⟩
    ·have d3 : decide ((i : Int) < (k : Int)) = false := decide_eq_false (by omega); have d4 : decide (i < k) = false := decide_eq_false (by omega); have I1 := hide (ih (n - k) (by omega) (i - k) d (some ⟨b, o, none⟩) c ps w (by omega) (by omega) (by omega) (by omega) hp); obtain ⟨x, hx⟩ : ∃ x, x = (leadF d (i - k) (n - k) ps).1 := ⟨_, rfl⟩; obtain ⟨y, hy⟩ : ∃ x, x = (leadF d (i - k) (n - k) ps).2 := ⟨_, rfl⟩; have HE := hide (show leadF d i n (ps ++ [p]) = (pairF p x, y) by rw [hx, hy]; exact HR.out hik); rw [HE.out]; rw [← hx, ← hy, ← hLe, show ((i - k : Nat) : Int) = (i : Int) - k by omega, show ((n - k : Nat) : Int) = (n : Int) - k by omega] at I1; have q1 : (0 : Int) ≤ (i : Int) - k := by omega
     have q2 : (i : Int) - k ≤ 10000 := by omega
     have q3 : (0 : Int) ≤ (n : Int) - k := by omega
     have q4 : (n : Int) - k ≤ 10000 := by omega
     clear hp HL HR ih hk hik hx hy hLe
     go_enter Tryd.func62, Tryd.ntmps62
     go_wp2_with (first
      | (go_at_call 88; refine (HH.out _).mono ?_; rintro e w2 ⟨rfl, rfl⟩)
      | (go_at_call 62; with_reducible refine I1.out.mono ?_; rintro e w3 ⟨rfl, hb3⟩)
      | (go_at_call 89; refine (rPair_any _ _ _).mono ?_; rintro e w4 ⟨rfl, hb4⟩))
     go_ret2
     exact ⟨rfl, hb3.trans (hb4.mono hb3.size)⟩
  ·obtain rfl : n = 1 := by omega
   obtain rfl : i = 0 := by omega
   have HE := hide (show leadF d 0 1 path = (leafF d, path.isEmpty) from leadJ_one (by omega)); rw [HE.out]; clear ih; cases path with
   | nil =>
    clear h
    go_enter Tryd.func62, Tryd.ntmps62
    go_wp2_with (go_at_call 87; refine (rLeaf_any _ _).mono ?_; rintro e w2 ⟨rfl, hb⟩)
    go_ret2
    exact ⟨rfl, hb⟩
   | cons p ps =>
    rw [List.length_cons]; have p1 : ((ps.length : Int) + 1 == 0) = false := by simp; omega
    clear h
    go_enter Tryd.func62, Tryd.ntmps62
    go_wp2_with (go_at_call 87; refine (rLeaf_any _ _).mono ?_; rintro e w2 ⟨rfl, hb⟩)
    go_ret2
    exact ⟨rfl, hb⟩
theorem leadF_long {d : Int} {i n : Nat} {path : List Int} (hn : n ≤ 4096) (h : 20 < path.length) : leadO leafF pairF d i n path = none := by
 have h1 := lead_len (lf := leafF) (pr := pairF) n d i path; have h2 := plen_le 12 n i (by omega); unfold leadO; rw [h1, if_neg (by simp; omega)]
set_option maxHeartbeats 2000000 in
theorem rIncluded_any (root leaf i n : Int) (A : Option Addr) (c : Nat) (path : List Int) (w : World) (hp : path.length ≤ 100) (hc : path.length ≤ c) (h : KS .u64 w A path) :
  Calls Tryd.prog 33 #[.int .u64 root, .int .u64 leaf, .int .i64 i, .int .i64 n, .slice A path.length c] w fun e w' => e = .returned (.bool (inclS root leaf i n path)) ∧ Below w.heap.size w w' := by
 by_cases hbad : n < 1 ∨ 4096 < n ∨ i < 0 ∨ n ≤ i
 ·have hr : inclS root leaf i n path = false := if_pos hbad; rw [hr]; have hcase : decide (n < 1) = true ∨ decide (n < 1) = false ∧ (decide (4096 < n) = true ∨ decide (4096 < n) = false ∧ (decide (i < 0) = true ∨ decide (i < 0) = false ∧ decide (n ≤ i) = true)) := by
   simp only [decide_eq_true_eq, decide_eq_false_iff_not]; omega
  clear hbad hr h; rcases hcase with q1 | ⟨q1, q2 | ⟨q2, q3 | ⟨q3, q4⟩⟩⟩
  all_goals
   go_enter Tryd.func33, Tryd.ntmps33
   go_wp2
   go_ret
   exact ⟨rfl, Below.refl _ _⟩
 ·obtain ⟨nn, rfl⟩ : ∃ j : Nat, n = j := ⟨n.toNat, by omega⟩; obtain ⟨ii, rfl⟩ : ∃ j : Nat, i = j := ⟨i.toNat, by omega⟩; have hr : inclS root leaf ii nn path = decide (leadO leafF pairF leaf ii nn path = some root) := by
   unfold inclS; rw [if_neg hbad, Int.toNat_natCast, Int.toNat_natCast, lead_walk nn leaf ii path (by omega)]; rfl
  rw [hr]; have q1 : decide ((nn : Int) < 1) = false := decide_eq_false (by omega); have q2 : decide (4096 < (nn : Int)) = false := decide_eq_false (by omega); have q3 : decide ((ii : Int) < 0) = false := decide_eq_false (by omega); have q4 : decide ((nn : Int) ≤ ii) = false := decide_eq_false (by omega); have q4' : decide (nn ≤ ii) = false := decide_eq_false (by omega)
  by_cases hlong : 20 < path.length
  ·have q5 : decide (20 < (path.length : Int)) = true := decide_eq_true (by omega); have q5' : decide (20 < path.length) = true := decide_eq_true (by omega); rw [leadF_long (by omega) hlong]; clear hbad hr h
   go_enter Tryd.func33, Tryd.ntmps33
   go_wp2
   go_ret
   exact ⟨rfl, Below.refl _ _⟩
  ·have q5 : decide (20 < (path.length : Int)) = false := decide_eq_false (by omega); have q5' : decide (20 < path.length) = false := decide_eq_false (by omega); have R := hide (rlead_any nn ii leaf A c path w (by omega) (by omega) (by omega) hc h); obtain ⟨x, hx⟩ : ∃ x, x = (leadF leaf ii nn path).1 := ⟨_, rfl⟩; obtain ⟨y, hy⟩ : ∃ x, x = (leadF leaf ii nn path).2 := ⟨_, rfl⟩; rw [← hx, ← hy] at R; have HE : decide (leadO leafF pairF leaf ii nn path = some root) = (y && (x == root)) := by
    unfold leadO; rw [show leadJ leafF pairF leaf ii nn path = (x, y) by rw [hx, hy]; rfl]; cases y <;> simp; rw [Bool.eq_iff_iff]; simp
   rw [HE]; clear hbad hr h hx hy HE; cases y
   ·go_enter Tryd.func33, Tryd.ntmps33
    go_wp2_with (go_at_call 62; with_reducible refine R.out.mono ?_; rintro e w3 ⟨rfl, hb3⟩)
    go_ret
    exact ⟨rfl, hb3⟩
   ·go_enter Tryd.func33, Tryd.ntmps33
    go_wp2_with (go_at_call 62; with_reducible refine R.out.mono ?_; rintro e w3 ⟨rfl, hb3⟩)
    go_ret
    exact ⟨by simp, hb3⟩
end Go.Proofs.YtmfjcachghboiaaDoor
namespace Go.Proofs.YtmfjcachghboiaaDoor
open Go.RowKit
set_option maxRecDepth 100000 in
theorem step_append_rd {P : Program} {ops : Array Oper} {o : Oper} {a : Act} {w : World} {K : Act → World → Prop} {Q : Exit → Act → World → Prop} {E : Prop} (hgd : o.guard = none) (s x : Operand) (t : TypeId)
  (ho : o.op = .call { callee := .builtin .append, args := #[s, x], argTypes := #[t, t] })
  (base : Nat) (e : TypeId) (i : TypeInfo) (z : Value) (size bytes : Nat) (ht : P.underlying t = some (.slice e)) (hi : P.info? e = some i) (hz : i.zero = some z)
  (hsize : i.size = size) (hby : i.bytes = bytes) (hzs : z.cells.size = size) (hsz : 0 < size)
  (v : Value) (n : Nat) (xs : List Value) (hs : a.eval s = v) (hown : w.ownsRow base e size v n xs)
  (A : Option Addr) (m c : Nat) (news : List Value) (hx : a.eval x = .slice A m c) (hl : news.length = m * size) (hr : Rd w A news) (h1 : ∀ u ∈ news, u.oneCell' = true)
  (h63 : n + m ≤ maxLen) (hbytes : (n + m) * bytes ≤ 140737488355328) (hbase : base ≤ w.heap.size)
  (h : ∀ v' w', w'.ownsRow base e size v' (n + m) (xs ++ news) → w.grownBy w' v.ownBlock → (v'.ownBlock = v.ownBlock ∨ v'.ownBlock = some w.heap.size) → K (a.put o.dst v') w') :
  if Region.wanted o (yielded ops a.tmps) = true then Oper.wp P o a w K Q else E := by
 have hw : Region.wanted o (yielded ops a.tmps) = true := by simp [Region.wanted, hgd]
 rw [if_pos hw]; exact wp_append_rd w s x t ho base e i z size bytes ht hi hz hsize hby hzs hsz v n xs hs hown A m c news hx hl hr h1 h63 hbytes hbase h
set_option maxRecDepth 100000 in
theorem inclF_one {l : List Int} {i : Nat} (h : ¬2 ≤ l.length) : inclF l i = [] := inclT_one h
set_option maxRecDepth 100000 in
theorem inclF_len {l : List Int} {i : Nat} (h : l.length ≤ 10000) : (inclF l i).length ≤ 14 := by
 have h1 := incl_len (lf := leafF) (pr := pairF) l.length l rfl i; unfold inclF; rw [h1]; exact plen_le 14 _ _ (by omega)
set_option maxRecDepth 100000 in
set_option maxHeartbeats 4000000 in
theorem rinclude_any : ∀ (n : Nat) (A : Option Addr) (c : Nat) (l : List Int) (i : Nat) (w : World), l.length = n → 1 ≤ n → n ≤ 10000 → n ≤ c → i < n → KS .u64 w A l →
  Calls Tryd.prog 84 #[.slice A n c, .int .i64 i] w fun e w' => ∃ v, e = .returned v ∧ OwnK .u64 25 w' w.heap.size v (inclF l i) ∧ Below w.heap.size w w' := by
 intro n
 induction n using Nat.strongRecOn with
 | ind n ih =>
  intro A c l i w hl h1 hn hc hin h
  by_cases hn2 : 2 ≤ n
  ·obtain ⟨b, o, rfl, hbl, hcell⟩ := h.at_ (i := 0) (by omega); have HL := hide (@inclF_left l i (by omega)); have HR := hide (@inclF_right l i (by omega)); rw [hl] at HL HR; obtain ⟨s1, s2, s3⟩ := hf_spec hn2; have HH := hide fun W => rHalf_any n W hn2 hn
   have hsh := KS.shift (n := hf n) h (by omega); obtain ⟨k, hk⟩ : ∃ k, k = hf n := ⟨_, rfl⟩; rw [← hk] at HH s1 s2 s3 HL HR hsh; have hne : ((n : Int) == 1) = false := by simp; omega
   have p1 : (0 : Int) ≤ k := by omega
   have p2 : (k : Int) ≤ n := by omega
   have p3 : (k : Int) ≤ c := by omega
   have p4 : ¬ c = k := by omega
   obtain ⟨i0, hi, hz0, hz1, hz2⟩ := info_parts infoU; have R1 := hide fun W (s : Below w.heap.size w W) => rroot_any k (some ⟨b, o, none⟩) c (l.take k) W (by simp; omega) s1 (by omega) (by omega) (KS.below (h.pre k) s (Nat.le_refl _))
   have R2 := hide fun W (s : Below w.heap.size w W) => rroot_any (n - k) (some ⟨b, o + k, none⟩) (c - k) (l.drop k) W (by simp; omega) (by omega) (by omega) (by omega) (KS.below hsh s (Nat.le_refl _))
   by_cases hik : i < k
   ·have d3 : decide ((i : Int) < (k : Int)) = true := decide_eq_true (by omega); have d4 : decide (i < k) = true := decide_eq_true (by omega); have I1 := hide fun W (s : Below w.heap.size w W) => (ih k s2 (some ⟨b, o, none⟩) c (l.take k) i W (by simp; omega) s1 (by omega) (by omega) hik (KS.below (h.pre k) s (Nat.le_refl _))).mono (R' := fun e w' => ∃ v, e = .returned v ∧ OwnK .u64 25 w' w.heap.size v (inclF (l.take k) i) ∧ Below W.heap.size W w' ∧ w.heap.size ≤ w'.heap.size ∧ Below w.heap.size w w') fun e w' ⟨v, he, ho, hb⟩ => ⟨v, he, ho.weak s.size, hb, Nat.le_trans s.size hb.size, s.trans (hb.mono s.size)⟩
    have H14 := inclF_len (l := l.take k) (i := i) (by simp; omega); have HE := hide (HL.out hik); clear hsh hcell h HL HR R1 ih hk hik
    go_enter Tryd.func84, Tryd.ntmps84
    go_upto_region 5 with (go_at_call 88; refine (HH.out _).mono ?_; rintro e w2 ⟨rfl, rfl⟩)
    go_region_held3 (fun w' => Below w.heap.size w w') ((repeat (first | exact Below.refl _ _ | (refine Below.drew ?_) | (refine Below.alloc ?_ (by (first | ((repeat (first | simp only [World.size_alloc] | simp only [heap_drew])); omega) | omega | (simp; omega))) _) | (refine Below.trans ?_ (Below.mono (by assumption) (by (first | ((repeat (first | simp only [World.size_alloc] | simp only [heap_drew])); omega) | omega | (simp; omega))))))))
     (first
      | (go_at_call 84; with_reducible refine (I1.out _ (by assumption)).mono ?_; rintro e w3 ⟨v3, rfl, ho3, hb3, hs3, hw3⟩)
      | (go_at_call 82; with_reducible refine (R2.out _ (by assumption)).mono ?_; rintro e w4 ⟨rfl, hb4⟩; have hs4 := hb4.size; (repeat (first | simp only [World.size_alloc] at hs4 | simp only [heap_drew] at hs4)))
      | (refine step_append_rd rfl _ _ 34 (by rfl) w.heap.size 25 i0 _ 1 8 Tryd.underlying34 hi hz0 hz1 hz2 rfl (by decide) _ _ _ (by rfl) (OwnK.below ho3 (by (repeat (first | exact Below.refl _ _ | (refine Below.drew ?_) | (refine Below.alloc ?_ (by (first | ((repeat (first | simp only [World.size_alloc] | simp only [heap_drew])); omega) | omega | (simp; omega))) _) | (refine Below.trans ?_ (Below.mono (by assumption) (by (first | ((repeat (first | simp only [World.size_alloc] | simp only [heap_drew])); omega) | omega | (simp; omega))))))))) _ 1 1 [.int .u64 (rootF (l.drop k))] (by rfl) rfl (Rd.new_row _ _ _) (by simp [Value.oneCell']) (by simp only [maxLen]; omega) (by omega) (show Below w.heap.size w _ by (repeat (first | exact Below.refl _ _ | (refine Below.drew ?_) | (refine Below.alloc ?_ (by (first | ((repeat (first | simp only [World.size_alloc] | simp only [heap_drew])); omega) | omega | (simp; omega))) _) | (refine Below.trans ?_ (Below.mono (by assumption) (by (first | ((repeat (first | simp only [World.size_alloc] | simp only [heap_drew])); omega) | omega | (simp; omega)))))))).size ?_; intro v6 w6 hown6 hgrow6 _; have hb6 : Below w.heap.size w w6 := (show Below w.heap.size w _ by (repeat (first | exact Below.refl _ _ | (refine Below.drew ?_) | (refine Below.alloc ?_ (by (first | ((repeat (first | simp only [World.size_alloc] | simp only [heap_drew])); omega) | omega | (simp; omega))) _) | (refine Below.trans ?_ (Below.mono (by assumption) (by (first | ((repeat (first | simp only [World.size_alloc] | simp only [heap_drew])); omega) | omega | (simp; omega)))))))).grown hgrow6 (show Below w.heap.size w _ by (repeat (first | exact Below.refl _ _ | (refine Below.drew ?_) | (refine Below.alloc ?_ (by (first | ((repeat (first | simp only [World.size_alloc] | simp only [heap_drew])); omega) | omega | (simp; omega))) _) | (refine Below.trans ?_ (Below.mono (by assumption) (by (first | ((repeat (first | simp only [World.size_alloc] | simp only [heap_drew])); omega) | omega | (simp; omega)))))))).size (fun g hg => (World.ownsRow.lt ho3 g hg).1)))
    all_goals
     go_wp2
     go_ret
     exact ⟨_, rfl, by rw [HE.out]; exact OwnK.snoc hown6 rfl rfl, hb6⟩
   ·have d3 : decide ((i : Int) < (k : Int)) = false := decide_eq_false (by omega); have d4 : decide (i < k) = false := decide_eq_false (by omega); have q1 : (0 : Int) ≤ (i : Int) - k := by omega
    have q2 : (i : Int) - k ≤ 10000 := by omega
    have q3 : IntKind.i64.wrap ((i : Int) - k) = (i : Int) - k := IntWalk.i64_in _ (by omega); have I2 := ih (n - k) (by omega) (some ⟨b, o + k, none⟩) (c - k) (l.drop k) (i - k); rw [show ((i - k : Nat) : Int) = (i : Int) - k by omega] at I2; have I1 := hide fun W (s : Below w.heap.size w W) => (I2 W (by simp; omega) (by omega) (by omega) (by omega) (by omega) (KS.below hsh s (Nat.le_refl _))).mono (R' := fun e w' => ∃ v, e = .returned v ∧ OwnK .u64 25 w' w.heap.size v (inclF (l.drop k) (i - k)) ∧ Below W.heap.size W w' ∧ w.heap.size ≤ w'.heap.size ∧ Below w.heap.size w w') fun e w' ⟨v, he, ho, hb⟩ => ⟨v, he, ho.weak s.size, hb, Nat.le_trans s.size hb.size, s.trans (hb.mono s.size)⟩
    have H14 := inclF_len (l := l.drop k) (i := i - k) (by simp; omega); have HE := hide (HR.out hik); clear hsh hcell h HL HR R2 ih hk hik I2
    go_enter Tryd.func84, Tryd.ntmps84
    go_upto_region 6 with (go_at_call 88; refine (HH.out _).mono ?_; rintro e w2 ⟨rfl, rfl⟩)
    go_region_held3 (fun w' => Below w.heap.size w w') ((repeat (first | exact Below.refl _ _ | (refine Below.drew ?_) | (refine Below.alloc ?_ (by (first | ((repeat (first | simp only [World.size_alloc] | simp only [heap_drew])); omega) | omega | (simp; omega))) _) | (refine Below.trans ?_ (Below.mono (by assumption) (by (first | ((repeat (first | simp only [World.size_alloc] | simp only [heap_drew])); omega) | omega | (simp; omega))))))))
     (first
      | (go_at_call 84; go_loud (with_reducible refine (I1.out _ (by assumption)).mono ?_); rintro e w3 ⟨v3, rfl, ho3, hb3, hs3, hw3⟩)
      | (go_at_call 82; with_reducible refine (R1.out _ (by assumption)).mono ?_; rintro e w4 ⟨rfl, hb4⟩; have hs4 := hb4.size; (repeat (first | simp only [World.size_alloc] at hs4 | simp only [heap_drew] at hs4)))
      | (refine step_append_rd rfl _ _ 34 (by rfl) w.heap.size 25 i0 _ 1 8 Tryd.underlying34 hi hz0 hz1 hz2 rfl (by decide) _ _ _ (by rfl) (OwnK.below ho3 (by (repeat (first | exact Below.refl _ _ | (refine Below.drew ?_) | (refine Below.alloc ?_ (by (first | ((repeat (first | simp only [World.size_alloc] | simp only [heap_drew])); omega) | omega | (simp; omega))) _) | (refine Below.trans ?_ (Below.mono (by assumption) (by (first | ((repeat (first | simp only [World.size_alloc] | simp only [heap_drew])); omega) | omega | (simp; omega))))))))) _ 1 1 [.int .u64 (rootF (l.take k))] (by rfl) rfl (Rd.new_row _ _ _) (by simp [Value.oneCell']) (by simp only [maxLen]; omega) (by omega) (show Below w.heap.size w _ by (repeat (first | exact Below.refl _ _ | (refine Below.drew ?_) | (refine Below.alloc ?_ (by (first | ((repeat (first | simp only [World.size_alloc] | simp only [heap_drew])); omega) | omega | (simp; omega))) _) | (refine Below.trans ?_ (Below.mono (by assumption) (by (first | ((repeat (first | simp only [World.size_alloc] | simp only [heap_drew])); omega) | omega | (simp; omega)))))))).size ?_; intro v6 w6 hown6 hgrow6 _; have hb6 : Below w.heap.size w w6 := (show Below w.heap.size w _ by (repeat (first | exact Below.refl _ _ | (refine Below.drew ?_) | (refine Below.alloc ?_ (by (first | ((repeat (first | simp only [World.size_alloc] | simp only [heap_drew])); omega) | omega | (simp; omega))) _) | (refine Below.trans ?_ (Below.mono (by assumption) (by (first | ((repeat (first | simp only [World.size_alloc] | simp only [heap_drew])); omega) | omega | (simp; omega)))))))).grown hgrow6 (show Below w.heap.size w _ by (repeat (first | exact Below.refl _ _ | (refine Below.drew ?_) | (refine Below.alloc ?_ (by (first | ((repeat (first | simp only [World.size_alloc] | simp only [heap_drew])); omega) | omega | (simp; omega))) _) | (refine Below.trans ?_ (Below.mono (by assumption) (by (first | ((repeat (first | simp only [World.size_alloc] | simp only [heap_drew])); omega) | omega | (simp; omega)))))))).size (fun g hg => (World.ownsRow.lt ho3 g hg).1)))
    all_goals
     go_wp2
     go_ret
     exact ⟨_, rfl, by rw [HE.out]; exact OwnK.snoc hown6 rfl rfl, hb6⟩
  ·obtain rfl : n = 1 := by omega
   rw [inclF_one (by omega)]; clear ih h
   go_enter Tryd.func84, Tryd.ntmps84
   go_wp2
   go_ret
   exact ⟨_, rfl, OwnK.nil, Below.refl _ _⟩
end Go.Proofs.YtmfjcachghboiaaDoor
namespace Go.Proofs.YtmfjcachghboiaaDoor
open Go.RowKit
set_option maxRecDepth 100000 in
set_option maxHeartbeats 2000000 in
theorem rInclude_anyF (A : Option Addr) (c : Nat) (l : List Int) (i : Int) (w : World) (hc : l.length ≤ c) (h : KS .u64 w A l) :
  Calls Tryd.prog 54 #[.slice A l.length c, .int .i64 i] w fun e w' => ∃ A' c', e = .returned (.tuple #[.slice A' (incS l i).1.length c', .int .i64 (incS l i).2]) ∧ (incS l i).1.length ≤ c' ∧ c' ≤ maxLen ∧ (KS .u64 w' A' (incS l i).1 ∧ FrA w A') ∧ Below w.heap.size w w' := by
 have HC := hide fun W => rcheck_any A c l W
 unfold incS
 by_cases hk : checkS l = 0
 ·obtain ⟨h1, h2⟩ := checkS_ok hk; rw [if_neg (by simpa using hk)]; rw [hk] at HC; clear hk
  by_cases hbad : i < 0 ∨ (l.length : Int) ≤ i
  ·rw [if_pos hbad]; have hcase : decide (i < 0) = true ∨ decide (i < 0) = false ∧ decide ((l.length : Int) ≤ i) = true := by
    simp only [decide_eq_true_eq, decide_eq_false_iff_not]; omega
   clear hbad h; rcases hcase with q1 | ⟨q1, q2⟩
   all_goals
    go_enter Tryd.func54, Tryd.ntmps54
    go_wp2_with (go_at_call 81; refine (HC.out _).mono ?_; rintro e w2 ⟨rfl, rfl⟩)
    go_ret2
    exact ⟨none, 0, rfl, Nat.le_refl _, by simp [maxLen], ⟨Rd.nil _ _, fun _ _ h => by cases h⟩, Below.refl _ _⟩
  ·rw [if_neg hbad]; obtain ⟨j, rfl⟩ : ∃ j : Nat, i = j := ⟨i.toNat, by omega⟩; have q1 : decide ((j : Int) < 0) = false := decide_eq_false (by omega); have q2 : decide ((l.length : Int) ≤ j) = false := decide_eq_false (by omega); have q3 : decide (l.length ≤ j) = false := decide_eq_false (by omega); have R := hide (rinclude_any l.length A c l j w rfl h1 (by omega) hc (by omega) h); rw [Int.toNat_natCast]; clear hbad h
   go_enter Tryd.func54, Tryd.ntmps54
   go_wp2_with (first
    | (go_at_call 81; refine (HC.out _).mono ?_; rintro e w2 ⟨rfl, rfl⟩)
    | (go_at_call 84; with_reducible refine R.out.mono ?_; rintro e w3 ⟨v3, rfl, ho3, hb3⟩; obtain ⟨A3, c3, rfl, hl3, hm3, hk3⟩ := ho3.form; have HK := hide hk3; have HF := hide ho3.fresh; clear ho3 hk3))
   go_ret2
   exact ⟨A3, c3, rfl, hl3, hm3, ⟨HK.out, HF.out⟩, hb3⟩
 ·rw [if_pos hk]; obtain ⟨x, hx⟩ : ∃ x, x = checkS l := ⟨_, rfl⟩; rw [← hx] at HC hk ⊢; have q : (x != 0) = true := by simp [hk]
  clear hk hx h
  go_enter Tryd.func54, Tryd.ntmps54
  go_wp2_with (go_at_call 81; refine (HC.out _).mono ?_; rintro e w2 ⟨rfl, rfl⟩)
  go_ret2
  exact ⟨none, 0, rfl, Nat.le_refl _, by simp [maxLen], ⟨Rd.nil _ _, fun _ _ h => by cases h⟩, Below.refl _ _⟩
end Go.Proofs.YtmfjcachghboiaaDoor
namespace Go.Proofs.YtmfjcachghboiaaDoor
open Go.RowKit
theorem fl_u64 (l : List Int) : l.flatMap c_u64 = l.map (Value.int .u64) := by induction l with | nil => rfl | cons x l ih => rw [List.flatMap_cons, ih]; rfl
theorem fl_i64 (l : List Int) : l.flatMap c_i64 = l.map (Value.int .i64) := by induction l with | nil => rfl | cons x l ih => rw [List.flatMap_cons, ih]; rfl
theorem RowS.ks {S : Nat → Prop} {w : World} {A : Option Addr} {l : List Int} (h : RowS S w A (l.flatMap c_u64)) : KS .u64 w A l := by have := h.r; rwa [fl_u64] at this
theorem RowS.ki {S : Nat → Prop} {w : World} {A : Option Addr} {l : List Int} (h : RowS S w A (l.flatMap c_i64)) : KS .i64 w A l := by have := h.r; rwa [fl_i64] at this
theorem row_fresh {S : Nat → Prop} {w w' : World} {A : Option Addr} {l : List Int} (h : KS .u64 w' A l) (hf : FrA w A) : RowS (ext S w w') w' A (l.flatMap c_u64) := by
 rw [fl_u64]; refine ⟨h, fun hn => ?_⟩; obtain ⟨b, o, e, hb, _⟩ := h hn; exact ⟨b, o, e, .inr ⟨hf b o e, hb⟩⟩
theorem octL_len (n : Int) : (octL n).length = 8 := rfl
def okI (l : List Int) : Bool := decide (inI l ∧ l.length ≤ 100000)
def intsF (l : List Int) : Int := sumB (textL l)
def nextF (d : Int) (l : List Int) : Int := sumB (octL d ++ textL l)
def G_digest_Ints : Nat → (List Int) → Option Int
 | 0, _ => none
 | _ + 1, l => whenG (okI l) (intsF l)
theorem ks_low {S0 : Nat → Prop} {w0 : World} {A : Option Addr} {l : List Int} (hS : ∀ g, S0 g → g < w0.heap.size) (h : RowS S0 w0 A (l.flatMap c_i64)) : ∀ W, Below w0.heap.size w0 W → KS .i64 W A l := fun W hW => (h.to (fun _ h => h) (Ag.below hW hS)).ki
theorem g_digest_Ints (F : Nat) (A : Option Addr) (c : Nat) (l : List Int) (S0 : Nat → Prop) (w0 : World) (hS : ∀ g, S0 g → g < w0.heap.size) (hT : Tb w0) (h : RowS S0 w0 A (l.flatMap c_i64)) (hc : l.length ≤ c) (r : Int) (hG : G_digest_Ints F l = some r) :
  Calls Tryd.prog 98 #[.slice A l.length c] w0 fun e w' => e = .returned (.int .u64 r) ∧ Below w0.heap.size w0 w' := by
 cases F with
 | zero => cases hG
 | succ F =>
 obtain ⟨h1, rfl⟩ := whenG_some hG; obtain ⟨h2, h3⟩ := of_decide_eq_true h1; have hlen := textL_len h2; have T1 := hide (text_any w0.heap.size 0 (.slice none 0 0) [] l A c w0 w0 hT (Below.refl _ _) (Nat.le_refl _) (Nat.le_refl _) OwnK.nil (by simp) (ks_low hS h) h2 h3); have HS := hide fun A c l W hn s => sum_any A c l W hn s
 clear hG h1 h hS hT
 go_enter Tryd.func98, Tryd.ntmps98
 go_wp2_with (first
  | (go_at_call 97; refine T1.out.mono ?_; rintro e w3 ⟨v3, rfl, ho3, hb3⟩; obtain ⟨A3, c3, rfl, hl3, hm3, hk3⟩ := ho3.form; have B3 := hide hb3; have K3 := hide hk3; clear ho3 hb3 hk3)
  | (go_at_call 95; refine (HS.out A3 c3 _ _ (by simp; omega) K3.out).mono ?_; rintro e w4 ⟨rfl, rfl⟩))
 go_ret
 exact ⟨rfl, B3.out⟩
def G_digest_Next : Nat → Int → (List Int) → Option Int
 | 0, _, _ => none
 | _ + 1, d, l => whenG (decide (inI l ∧ l.length ≤ 10000 ∧ 1 ≤ l.length)) (nextF d l)
set_option maxRecDepth 100000 in
set_option maxHeartbeats 4000000 in
theorem g_digest_Next (F : Nat) (n : Int) (A : Option Addr) (c : Nat) (l : List Int) (S0 : Nat → Prop) (w0 : World) (hS : ∀ g, S0 g → g < w0.heap.size) (hT : Tb w0) (h : RowS S0 w0 A (l.flatMap c_i64)) (hc : l.length ≤ c) (r : Int) (hG : G_digest_Next F n l = some r) :
  Calls Tryd.prog 76 #[.int .u64 n, .slice A l.length c] w0 fun e w' => e = .returned (.int .u64 r) ∧ Below w0.heap.size w0 w' := by
 cases F with
 | zero => cases hG
 | succ F =>
 obtain ⟨h1, rfl⟩ := whenG_some hG; obtain ⟨h2, h3, h4⟩ := of_decide_eq_true h1; have hlen := textL_len h2; obtain ⟨L, hL⟩ : ∃ L, L = octL n ++ textL l := ⟨_, rfl⟩; have hLl : L.length ≤ 9223372036854775807 := by rw [hL, List.length_append, octL_len]; omega
 have hR : nextF n l = sumB L := by rw [hL]; rfl
 rw [hR]; have T1 : Hid (∀ (W w : World), Below w0.heap.size w0 W → Below W.heap.size W w → ∀ A', KS .u8 w A' (octL n) → Calls Tryd.prog 97 #[.slice A' 8 8, .slice A l.length c] w fun e w' => ∃ v', e = .returned v' ∧ OwnK .u8 5 w' w.heap.size v' L ∧ Below w.heap.size w w') := by
  refine hide fun W w hW hb A' hk => ?_
  rw [hL]; exact text_f A' 8 (octL n) l A c w0 w hT (hW.trans (hb.mono hW.size)) (by simp [octL]) (by omega) hk (fun W' hW' => ks_low hS h W' ((hW.trans (hb.mono hW.size)).trans (hW'.mono (Nat.le_trans hW.size hb.size)))) h2 h3 h4
 have HS := hide fun A c W s => sum_any A c L W hLl s
 clear hG h1 h hS hT hlen h2 hL hLl hR h3 h4
 go_enter Tryd.func76, Tryd.ntmps76
 go_wp2_with (first
  | (go_at_call 94; refine (octets_any n _).mono ?_; rintro e w2 ⟨rfl, hb2⟩; have hs2 := hb2.size; have H2 := hide hb2; have B2 := hide (hb2.alloc hs2 (.cells (octRow n 8) 117)); have K2 := hide (ks_oct (Blk.new w2 117 (octRow n 8))); have I2 := hide ((Below.refl w2.heap.size w2).alloc (Nat.le_refl _) (.cells (octRow n 8) 117)); clear hb2; simp only [octRow, Nat.reduceLT, if_true] at B2 K2 I2 ⊢)
  | (go_at_call 97; with_reducible refine (T1.out w2 _ H2.out I2.out _ K2.out).mono ?_; rintro e w3 ⟨v3, rfl, ho3, hb3⟩; obtain ⟨A3, c3, rfl, hl3, hm3, hk3⟩ := ho3.form; have B3 := hide (B2.out.trans (hb3.mono B2.out.size)); have K3 := hide hk3; clear ho3 hb3 hk3)
  | (go_at_call 95; with_reducible refine (HS.out A3 c3 _ K3.out).mono ?_; rintro e w4 ⟨rfl, rfl⟩))
 go_ret
 exact ⟨rfl, B3.out⟩
end Go.Proofs.YtmfjcachghboiaaDoor
namespace Go.Proofs.YtmfjcachghboiaaDoor
open Go.RowKit Go.Maps
def G_regulatorref03_Decimal : Nat → Int → Option ((List UInt8))
 | 0, _ => none
 | F + 1, p_0 =>
 ifB (decide (p_0 < 0))
  (ifB (((IntKind.i64.wrap (Int.tdiv p_0 10)) == 0))
   (Option.bind (apS ([45] : List UInt8) ([UInt8.ofNat (Int.toNat (IntKind.u8.wrap (IntKind.i64.wrap (48 - p_0))))] : List UInt8)) (fun v_4 =>
   some v_4))
   (Option.bind (Option.bind (G_regulatorref03_Decimal F (IntKind.i64.wrap (Int.tdiv p_0 10))) (fun v_6 =>
    Option.bind (apS v_6 ([UInt8.ofNat (Int.toNat (IntKind.u8.wrap (IntKind.i64.wrap (48 - (Int.tmod p_0 10)))))] : List UInt8)) (fun v_8 =>
    some v_8)) : Option ((List UInt8))) (fun (v_19 : (List UInt8)) =>
    some v_19)))
  (ifB (decide (p_0 < 10))
   (some ([UInt8.ofNat (Int.toNat (IntKind.u8.wrap (IntKind.i64.wrap (48 + p_0))))] : List UInt8))
   (Option.bind (Option.bind (G_regulatorref03_Decimal F (IntKind.i64.wrap (Int.tdiv p_0 10))) (fun v_25 =>
    Option.bind (apS v_25 ([UInt8.ofNat (Int.toNat (IntKind.u8.wrap (IntKind.i64.wrap (48 + (Int.tmod p_0 10)))))] : List UInt8)) (fun v_27 =>
    some v_27)) : Option ((List UInt8))) (fun (v_38 : (List UInt8)) =>
    some v_38)))
set_option maxRecDepth 100000 in
set_option maxHeartbeats 16000000 in
theorem g_regulatorref03_Decimal : ∀ (F : Nat) (p_0 : Int) (S0 : Nat → Prop) (w0 : World) (hS : ∀ g, S0 g → g < w0.heap.size) (hT : Tb w0)  (r : (List UInt8)) (hG : G_regulatorref03_Decimal F p_0 = some r),
  Calls Tryd.prog 96 #[.int .i64 p_0] w0 fun e w' => e = .returned (.string ⟨List.toArray r⟩) ∧ Below w0.heap.size w0 w' := by
 intro F
 induction F with
 | zero => intros; rename_i hG; cases hG
 | succ F ih =>
 intro p_0 S0 w0 hS hT  r hG; refine vc_enter (n := 41) Tryd.func96 rfl rfl rfl (fun a hK => ?_); replace hK := hK.weak (K' := [(0, .int .i64 p_0)]) ⟨rfl, trivial⟩; have hE := Es.start hS; unfold G_regulatorref03_Decimal at hG; refine wp_seq ?_; refine wp_region_lit ?_; refine o0 2 (.string ⟨List.toArray ([] : List UInt8)⟩) hK rfl (fun _ => by kernel_rfl) rfl rfl rfl ?_; clear hK a; intro a hK; refine wpList_nil ?_; refine xt_norm ?_; refine wp_seq ?_; refine wp_seq ?_; refine wp_region_lit ?_; refine o0 3 (.int .i64 p_0) hK rfl (fun _ => by kernel_rfl) rfl rfl rfl ?_; clear hK a; intro a hK; refine o0 4 (.bool (decide (p_0 < 0))) hK rfl (fun _ => by kernel_rfl) rfl rfl rfl ?_; clear hK a; intro a hK; refine wpList_nil ?_; refine xt_norm ?_; rcases ifB_cases hG with ⟨h_1, hG⟩ | ⟨h_1, hG⟩
 ·replace hK := hK.sub (d := 4) (v' := .bool true) rfl (congrArg Value.bool h_1); refine vc_cond (t := true) hK (fun _ => rfl) ?_; rw [if_pos rfl]; refine wp_seq ?_; refine wp_seq ?_; refine wp_region_lit ?_; refine o0 5 (.int .i64 p_0) hK rfl (fun _ => by kernel_rfl) rfl rfl rfl ?_; clear hK a; intro a hK; refine st_run (d := 6) (v' := .int .i64 (IntKind.i64.wrap (Int.tdiv p_0 10))) hK rfl (ex_int rfl (fun _ => rfl) (fun _ => rfl) (by kernel_rfl) (fun W => run_quo (by decide) W)) rfl rfl rfl ?_; clear hK a; intro a hK; refine o0 7 (.bool ((IntKind.i64.wrap (Int.tdiv p_0 10)) == 0)) hK rfl (fun _ => by kernel_rfl) rfl rfl rfl ?_; clear hK a; intro a hK; refine wpList_nil ?_; refine xt_norm ?_; rcases ifB_cases hG with ⟨h_2, hG⟩ | ⟨h_2, hG⟩
  ·replace hK := hK.sub (d := 7) (v' := .bool true) rfl (congrArg Value.bool h_2); refine vc_cond (t := true) hK (fun _ => rfl) ?_; rw [if_pos rfl]; refine wp_seq ?_; obtain ⟨v_4, hy_4, hG⟩ := bind_some hG; refine wp_region_lit ?_; refine o0 8 (.int .i64 p_0) hK rfl (fun _ => by kernel_rfl) rfl rfl rfl ?_; clear hK a; intro a hK; refine oN 2 (fun K => (10, .int .u8 (IntKind.u8.wrap (IntKind.i64.wrap (48 - p_0)))) :: (9, .int .i64 (IntKind.i64.wrap (48 - p_0))) :: K) hK (fun _ => by kernel_rfl) ?_; clear hK a; intro a hK; refine sq_new (d := 11) (v := fun g => .slice (some ⟨g, 0, none⟩) 1 1) (cs := #[.int .u8 (IntKind.u8.wrap (IntKind.i64.wrap (48 - p_0)))]) (t := 5) hK hE rfl (fun _ _ => by kernel_rfl) rfl rfl ?_; clear hK hE a; intro a g_3 w_5 hK hE; refine st_op (d := 12) (v' := .string ⟨List.toArray ([UInt8.ofNat (Int.toNat (IntKind.u8.wrap (IntKind.i64.wrap (48 - p_0))))] : List UInt8)⟩) (vs := [.int .u8 (IntKind.u8.wrap (IntKind.i64.wrap (48 - p_0)))]) (obs := [(⟨g_3, 0, none⟩, .int .u8 (IntKind.u8.wrap (IntKind.i64.wrap (48 - p_0))))]) hK rfl (fun _ => by kernel_rfl) ⟨((hE.blk 0 rfl).cell 0).trans rfl, trivial⟩ rfl rfl rfl ?_; clear hK a; intro a hK; refine st_run (d := 13) (v' := .string ⟨List.toArray v_4⟩) hK rfl (ex_eq rfl (fun _ => rfl) (fun _ => rfl) (by kernel_rfl) (fun W => run_str_add hy_4 W)) rfl rfl rfl ?_; clear hK a; intro a hK; refine o0 2 (.string ⟨List.toArray v_4⟩) hK rfl (fun _ => by kernel_rfl) rfl rfl rfl ?_; clear hK a; intro a hK; refine wpList_nil ?_; refine xt_norm ?_; refine wp_ret ?_; refine xt_ret ?_; refine xt_ret ?_; refine vc_ret (v' := .string ⟨List.toArray v_4⟩) (vs := []) (obs := []) hK (fun _ => by kernel_rfl) trivial rfl ?_; obtain rfl := Option.some.inj hG; exact ⟨rfl, hE.b⟩
  ·replace hK := hK.sub (d := 7) (v' := .bool false) rfl (congrArg Value.bool h_2); refine vc_cond (t := false) hK (fun _ => rfl) ?_; rw [if_neg (by simp)]; refine wp_skip ?_; refine xt_norm ?_; obtain ⟨o_18, hA_18, hG_18⟩ := bind_some hG; replace hG := hA_18; clear hA_18; refine seq_join1 (fun a w_ => ∃ (v_19 : List UInt8), ∃ S_, Kn 41 [(2, .string ⟨List.toArray v_19⟩)] a ∧ Es S0 w0 w_ S_ [] ∧ v_19 = o_18) ?_ ?_
   ·obtain ⟨v_6, hy_6, hG⟩ := bind_some hG; obtain ⟨v_8, hy_8, hG⟩ := bind_some hG; replace hE := hE.drew; refine rh_begin (S0 := S0) (w0 := w0) [] rfl ?_; generalize w0.drew = w_9 at hE ⊢; refine rh_take (i := 0) (d := 14) (v' := .int .i64 p_0) (vs := []) (obs := []) #[true, false, false, false, false, false, false, false, false, false, false] (by kernel_rfl) hK ⟨_, hE.sel [] rfl rfl⟩ rfl (by kernel_rfl) (by kernel_rfl) (by kernel_rfl) (by kernel_rfl) (fun _ _ _ h => h) (fun _ => by kernel_rfl) (fun _ _ _ => trivial) rfl rfl rfl ?_; clear hK a; intro a hK; refine rh_run (i := 1) (d := 15) (v' := .int .i64 (IntKind.i64.wrap (Int.tdiv p_0 10))) #[true, true, false, false, false, false, false, false, false, false, false] (by kernel_rfl) hK ⟨_, hE.sel [] rfl rfl⟩ rfl (by kernel_rfl) (by kernel_rfl) (by kernel_rfl) (by kernel_rfl) (fun _ _ _ h => h) (ex_int rfl (fun _ => rfl) (fun _ => rfl) (by kernel_rfl) (fun W => run_quo (by decide) W)) rfl rfl rfl ?_; clear hK a; intro a hK; refine rh_take (i := 3) (d := 17) (v' := .int .i64 p_0) (vs := []) (obs := []) #[true, true, false, true, false, false, false, false, false, false, false] (by kernel_rfl) hK ⟨_, hE.sel [] rfl rfl⟩ rfl (by kernel_rfl) (by kernel_rfl) (by kernel_rfl) (by kernel_rfl) (fun _ _ _ h => h) (fun _ => by kernel_rfl) (fun _ _ _ => trivial) rfl rfl rfl ?_; clear hK a; intro a hK; refine rh_run (i := 4) (d := 18) (v' := .int .i64 (Int.tmod p_0 10)) #[true, true, false, true, true, false, false, false, false, false, false] (by kernel_rfl) hK ⟨_, hE.sel [] rfl rfl⟩ rfl (by kernel_rfl) (by kernel_rfl) (by kernel_rfl) (by kernel_rfl) (fun _ _ _ h => h) (ex_int rfl (fun _ => rfl) (fun _ => rfl) (by kernel_rfl) (fun W => run_rem (by decide) W)) rfl rfl rfl ?_; clear hK a; intro a hK; refine rh_take (i := 5) (d := 19) (v' := .int .i64 (IntKind.i64.wrap (48 - (Int.tmod p_0 10)))) (vs := []) (obs := []) #[true, true, false, true, true, true, false, false, false, false, false] (by kernel_rfl) hK ⟨_, hE.sel [] rfl rfl⟩ rfl (by kernel_rfl) (by kernel_rfl) (by kernel_rfl) (by kernel_rfl) (fun _ _ _ h => h) (fun _ => by kernel_rfl) (fun _ _ _ => trivial) rfl rfl rfl ?_; clear hK a; intro a hK; refine rh_take (i := 6) (d := 20) (v' := .int .u8 (IntKind.u8.wrap (IntKind.i64.wrap (48 - (Int.tmod p_0 10))))) (vs := []) (obs := []) #[true, true, false, true, true, true, true, false, false, false, false] (by kernel_rfl) hK ⟨_, hE.sel [] rfl rfl⟩ rfl (by kernel_rfl) (by kernel_rfl) (by kernel_rfl) (by kernel_rfl) (fun _ _ _ h => h) (fun _ => by kernel_rfl) (fun _ _ _ => trivial) rfl rfl rfl ?_; clear hK a; intro a hK; refine rh_all [2, 7] (by kernel_rfl) (by simp) ⟨?_, ?_, trivial⟩
    ·refine rh_call (d := 16) (f := 96) (args := #[.int .i64 (IntKind.i64.wrap (Int.tdiv p_0 10))]) rfl hK rfl (fun _ => by kernel_rfl) rfl rfl (ih (IntKind.i64.wrap (Int.tdiv p_0 10)) (fun g => g < _) _ (fun _ h => h) (hT.to hE.b)  _ hy_6) ?_; rintro e w_10 ⟨rfl, hb⟩; replace hE := hE.call hb; obtain ⟨S_11, hE⟩ : ∃ S, Es _ _ _ S _ := ⟨_, hE⟩; clear hb; refine ⟨_, rfl, ⟨_, hE.sel [] rfl rfl⟩, ?_⟩; clear hK a; intro a hK; refine rh_all [7] (by kernel_rfl) (by simp) ⟨?_, trivial⟩; refine rh_new (d := 21) (v := fun g => .slice (some ⟨g, 0, none⟩) 1 1) (cs := #[.int .u8 (IntKind.u8.wrap (IntKind.i64.wrap (48 - (Int.tmod p_0 10))))]) (t := 5) rfl hK hE rfl (fun _ _ => by kernel_rfl) rfl rfl ?_; clear hK hE a; intro a g_7 w_12 hK hE; refine ⟨⟨_, hE.sel [] rfl rfl⟩, ?_⟩; refine rh_all [8] (by kernel_rfl) (by simp) ⟨?_, trivial⟩; refine rh_op (d := 22) (v' := .string ⟨List.toArray ([UInt8.ofNat (Int.toNat (IntKind.u8.wrap (IntKind.i64.wrap (48 - (Int.tmod p_0 10)))))] : List UInt8)⟩) (vs := [.int .u8 (IntKind.u8.wrap (IntKind.i64.wrap (48 - (Int.tmod p_0 10))))]) (obs := [(⟨g_7, 0, none⟩, .int .u8 (IntKind.u8.wrap (IntKind.i64.wrap (48 - (Int.tmod p_0 10)))))]) rfl hK ⟨_, hE.sel [] rfl rfl⟩ rfl (fun _ => by kernel_rfl) ⟨((hE.blk 0 rfl).cell 0).trans rfl, trivial⟩ rfl rfl rfl ?_; clear hK a; intro a hK; refine rh_run (i := 9) (d := 23) (v' := .string ⟨List.toArray v_8⟩) #[true, true, true, true, true, true, true, true, true, true, false] (by kernel_rfl) hK ⟨_, hE.sel [] rfl rfl⟩ rfl (by kernel_rfl) (by kernel_rfl) (by kernel_rfl) (by kernel_rfl) (fun _ _ _ h => h) (ex_eq rfl (fun _ => rfl) (fun _ => rfl) (by kernel_rfl) (fun W => run_str_add hy_8 W)) rfl rfl rfl ?_; clear hK a; intro a hK; refine rh_take (i := 10) (d := 2) (v' := .string ⟨List.toArray v_8⟩) (vs := []) (obs := []) #[true, true, true, true, true, true, true, true, true, true, true] (by kernel_rfl) hK ⟨_, hE.sel [] rfl rfl⟩ rfl (by kernel_rfl) (by kernel_rfl) (by kernel_rfl) (by kernel_rfl) (fun _ _ _ h => h) (fun _ => by kernel_rfl) (fun _ _ _ => trivial) rfl rfl rfl ?_; clear hK a; intro a hK; refine wpAnyH_done (by kernel_rfl) ?_ _; refine xt_norm ?_; exact ⟨v_8, _, hK.weak ⟨rfl, trivial⟩, hE.sel [] rfl rfl, Option.some.inj hG⟩
    ·refine rh_new (d := 21) (v := fun g => .slice (some ⟨g, 0, none⟩) 1 1) (cs := #[.int .u8 (IntKind.u8.wrap (IntKind.i64.wrap (48 - (Int.tmod p_0 10))))]) (t := 5) rfl hK hE rfl (fun _ _ => by kernel_rfl) rfl rfl ?_; clear hK hE a; intro a g_7 w_13 hK hE; refine ⟨⟨_, hE.sel [] rfl rfl⟩, ?_⟩; refine rh_all [2, 8] (by kernel_rfl) (by simp) ⟨?_, ?_, trivial⟩
     ·refine rh_call (d := 16) (f := 96) (args := #[.int .i64 (IntKind.i64.wrap (Int.tdiv p_0 10))]) rfl hK rfl (fun _ => by kernel_rfl) rfl rfl (ih (IntKind.i64.wrap (Int.tdiv p_0 10)) (fun g => g < _) _ (fun _ h => h) (hT.to hE.b)  _ hy_6) ?_; rintro e w_14 ⟨rfl, hb⟩; replace hE := hE.call hb; obtain ⟨S_15, hE⟩ : ∃ S, Es _ _ _ S _ := ⟨_, hE⟩; clear hb; refine ⟨_, rfl, ⟨_, hE.sel [] rfl rfl⟩, ?_⟩; clear hK a; intro a hK; refine rh_all [8] (by kernel_rfl) (by simp) ⟨?_, trivial⟩; refine rh_op (d := 22) (v' := .string ⟨List.toArray ([UInt8.ofNat (Int.toNat (IntKind.u8.wrap (IntKind.i64.wrap (48 - (Int.tmod p_0 10)))))] : List UInt8)⟩) (vs := [.int .u8 (IntKind.u8.wrap (IntKind.i64.wrap (48 - (Int.tmod p_0 10))))]) (obs := [(⟨g_7, 0, none⟩, .int .u8 (IntKind.u8.wrap (IntKind.i64.wrap (48 - (Int.tmod p_0 10)))))]) rfl hK ⟨_, hE.sel [] rfl rfl⟩ rfl (fun _ => by kernel_rfl) ⟨((hE.blk 0 rfl).cell 0).trans rfl, trivial⟩ rfl rfl rfl ?_; clear hK a; intro a hK; refine rh_run (i := 9) (d := 23) (v' := .string ⟨List.toArray v_8⟩) #[true, true, true, true, true, true, true, true, true, true, false] (by kernel_rfl) hK ⟨_, hE.sel [] rfl rfl⟩ rfl (by kernel_rfl) (by kernel_rfl) (by kernel_rfl) (by kernel_rfl) (fun _ _ _ h => h) (ex_eq rfl (fun _ => rfl) (fun _ => rfl) (by kernel_rfl) (fun W => run_str_add hy_8 W)) rfl rfl rfl ?_; clear hK a; intro a hK; refine rh_take (i := 10) (d := 2) (v' := .string ⟨List.toArray v_8⟩) (vs := []) (obs := []) #[true, true, true, true, true, true, true, true, true, true, true] (by kernel_rfl) hK ⟨_, hE.sel [] rfl rfl⟩ rfl (by kernel_rfl) (by kernel_rfl) (by kernel_rfl) (by kernel_rfl) (fun _ _ _ h => h) (fun _ => by kernel_rfl) (fun _ _ _ => trivial) rfl rfl rfl ?_; clear hK a; intro a hK; refine wpAnyH_done (by kernel_rfl) ?_ _; refine xt_norm ?_; exact ⟨v_8, _, hK.weak ⟨rfl, trivial⟩, hE.sel [] rfl rfl, Option.some.inj hG⟩
     ·refine rh_op (d := 22) (v' := .string ⟨List.toArray ([UInt8.ofNat (Int.toNat (IntKind.u8.wrap (IntKind.i64.wrap (48 - (Int.tmod p_0 10)))))] : List UInt8)⟩) (vs := [.int .u8 (IntKind.u8.wrap (IntKind.i64.wrap (48 - (Int.tmod p_0 10))))]) (obs := [(⟨g_7, 0, none⟩, .int .u8 (IntKind.u8.wrap (IntKind.i64.wrap (48 - (Int.tmod p_0 10)))))]) rfl hK ⟨_, hE.sel [] rfl rfl⟩ rfl (fun _ => by kernel_rfl) ⟨((hE.blk 0 rfl).cell 0).trans rfl, trivial⟩ rfl rfl rfl ?_; clear hK a; intro a hK; refine rh_all [2] (by kernel_rfl) (by simp) ⟨?_, trivial⟩; refine rh_call (d := 16) (f := 96) (args := #[.int .i64 (IntKind.i64.wrap (Int.tdiv p_0 10))]) rfl hK rfl (fun _ => by kernel_rfl) rfl rfl (ih (IntKind.i64.wrap (Int.tdiv p_0 10)) (fun g => g < _) _ (fun _ h => h) (hT.to hE.b)  _ hy_6) ?_; rintro e w_16 ⟨rfl, hb⟩; replace hE := hE.call hb; obtain ⟨S_17, hE⟩ : ∃ S, Es _ _ _ S _ := ⟨_, hE⟩; clear hb; refine ⟨_, rfl, ⟨_, hE.sel [] rfl rfl⟩, ?_⟩; clear hK a; intro a hK; refine rh_run (i := 9) (d := 23) (v' := .string ⟨List.toArray v_8⟩) #[true, true, true, true, true, true, true, true, true, true, false] (by kernel_rfl) hK ⟨_, hE.sel [] rfl rfl⟩ rfl (by kernel_rfl) (by kernel_rfl) (by kernel_rfl) (by kernel_rfl) (fun _ _ _ h => h) (ex_eq rfl (fun _ => rfl) (fun _ => rfl) (by kernel_rfl) (fun W => run_str_add hy_8 W)) rfl rfl rfl ?_; clear hK a; intro a hK; refine rh_take (i := 10) (d := 2) (v' := .string ⟨List.toArray v_8⟩) (vs := []) (obs := []) #[true, true, true, true, true, true, true, true, true, true, true] (by kernel_rfl) hK ⟨_, hE.sel [] rfl rfl⟩ rfl (by kernel_rfl) (by kernel_rfl) (by kernel_rfl) (by kernel_rfl) (fun _ _ _ h => h) (fun _ => by kernel_rfl) (fun _ _ _ => trivial) rfl rfl rfl ?_; clear hK a; intro a hK; refine wpAnyH_done (by kernel_rfl) ?_ _; refine xt_norm ?_; exact ⟨v_8, _, hK.weak ⟨rfl, trivial⟩, hE.sel [] rfl rfl, Option.some.inj hG⟩
   ·clear hK hE a; rintro a w_20 ⟨v_19, S_21, hK, hE, ho_⟩; subst ho_; replace hG := hG_18; clear hG_18; refine wp_ret ?_; refine xt_ret ?_; refine vc_ret (v' := .string ⟨List.toArray v_19⟩) (vs := []) (obs := []) hK (fun _ => by kernel_rfl) trivial rfl ?_; obtain rfl := Option.some.inj hG; exact ⟨rfl, hE.b⟩
 ·replace hK := hK.sub (d := 4) (v' := .bool false) rfl (congrArg Value.bool h_1); refine vc_cond (t := false) hK (fun _ => rfl) ?_; rw [if_neg (by simp)]; refine wp_skip ?_; refine xt_norm ?_; refine wp_seq ?_; refine wp_seq ?_; refine wp_region_lit ?_; refine o0 24 (.int .i64 p_0) hK rfl (fun _ => by kernel_rfl) rfl rfl rfl ?_; clear hK a; intro a hK; refine o0 25 (.bool (decide (p_0 < 10))) hK rfl (fun _ => by kernel_rfl) rfl rfl rfl ?_; clear hK a; intro a hK; refine wpList_nil ?_; refine xt_norm ?_; rcases ifB_cases hG with ⟨h_22, hG⟩ | ⟨h_22, hG⟩
  ·replace hK := hK.sub (d := 25) (v' := .bool true) rfl (congrArg Value.bool h_22); refine vc_cond (t := true) hK (fun _ => rfl) ?_; rw [if_pos rfl]; refine wp_seq ?_; refine wp_region_lit ?_; refine o0 26 (.int .i64 p_0) hK rfl (fun _ => by kernel_rfl) rfl rfl rfl ?_; clear hK a; intro a hK; refine oN 2 (fun K => (28, .int .u8 (IntKind.u8.wrap (IntKind.i64.wrap (48 + p_0)))) :: (27, .int .i64 (IntKind.i64.wrap (48 + p_0))) :: K) hK (fun _ => by kernel_rfl) ?_; clear hK a; intro a hK; refine sq_new (d := 29) (v := fun g => .slice (some ⟨g, 0, none⟩) 1 1) (cs := #[.int .u8 (IntKind.u8.wrap (IntKind.i64.wrap (48 + p_0)))]) (t := 5) hK hE rfl (fun _ _ => by kernel_rfl) rfl rfl ?_; clear hK hE a; intro a g_23 w_24 hK hE; refine st_op (d := 30) (v' := .string ⟨List.toArray ([UInt8.ofNat (Int.toNat (IntKind.u8.wrap (IntKind.i64.wrap (48 + p_0))))] : List UInt8)⟩) (vs := [.int .u8 (IntKind.u8.wrap (IntKind.i64.wrap (48 + p_0)))]) (obs := [(⟨g_23, 0, none⟩, .int .u8 (IntKind.u8.wrap (IntKind.i64.wrap (48 + p_0))))]) hK rfl (fun _ => by kernel_rfl) ⟨((hE.blk 0 rfl).cell 0).trans rfl, trivial⟩ rfl rfl rfl ?_; clear hK a; intro a hK; refine st_op (d := 2) (v' := .string ⟨List.toArray ([UInt8.ofNat (Int.toNat (IntKind.u8.wrap (IntKind.i64.wrap (48 + p_0))))] : List UInt8)⟩) (vs := []) (obs := []) hK rfl (fun _ => by kernel_rfl) trivial rfl rfl rfl ?_; clear hK a; intro a hK; refine wpList_nil ?_; refine xt_norm ?_; refine wp_ret ?_; refine xt_ret ?_; refine vc_ret (v' := .string ⟨List.toArray ([UInt8.ofNat (Int.toNat (IntKind.u8.wrap (IntKind.i64.wrap (48 + p_0))))] : List UInt8)⟩) (vs := []) (obs := []) hK (fun _ => by kernel_rfl) trivial rfl ?_; obtain rfl := Option.some.inj hG; exact ⟨rfl, hE.b⟩
  ·replace hK := hK.sub (d := 25) (v' := .bool false) rfl (congrArg Value.bool h_22); refine vc_cond (t := false) hK (fun _ => rfl) ?_; rw [if_neg (by simp)]; refine wp_skip ?_; refine xt_norm ?_; obtain ⟨o_37, hA_37, hG_37⟩ := bind_some hG; replace hG := hA_37; clear hA_37; refine seq_join1 (fun a w_ => ∃ (v_38 : List UInt8), ∃ S_, Kn 41 [(2, .string ⟨List.toArray v_38⟩)] a ∧ Es S0 w0 w_ S_ [] ∧ v_38 = o_37) ?_ ?_
   ·obtain ⟨v_25, hy_25, hG⟩ := bind_some hG; obtain ⟨v_27, hy_27, hG⟩ := bind_some hG; replace hE := hE.drew; refine rh_begin (S0 := S0) (w0 := w0) [] rfl ?_; generalize w0.drew = w_28 at hE ⊢; refine rh_take (i := 0) (d := 31) (v' := .int .i64 p_0) (vs := []) (obs := []) #[true, false, false, false, false, false, false, false, false, false, false] (by kernel_rfl) hK ⟨_, hE.sel [] rfl rfl⟩ rfl (by kernel_rfl) (by kernel_rfl) (by kernel_rfl) (by kernel_rfl) (fun _ _ _ h => h) (fun _ => by kernel_rfl) (fun _ _ _ => trivial) rfl rfl rfl ?_; clear hK a; intro a hK; refine rh_run (i := 1) (d := 32) (v' := .int .i64 (IntKind.i64.wrap (Int.tdiv p_0 10))) #[true, true, false, false, false, false, false, false, false, false, false] (by kernel_rfl) hK ⟨_, hE.sel [] rfl rfl⟩ rfl (by kernel_rfl) (by kernel_rfl) (by kernel_rfl) (by kernel_rfl) (fun _ _ _ h => h) (ex_int rfl (fun _ => rfl) (fun _ => rfl) (by kernel_rfl) (fun W => run_quo (by decide) W)) rfl rfl rfl ?_; clear hK a; intro a hK; refine rh_take (i := 3) (d := 34) (v' := .int .i64 p_0) (vs := []) (obs := []) #[true, true, false, true, false, false, false, false, false, false, false] (by kernel_rfl) hK ⟨_, hE.sel [] rfl rfl⟩ rfl (by kernel_rfl) (by kernel_rfl) (by kernel_rfl) (by kernel_rfl) (fun _ _ _ h => h) (fun _ => by kernel_rfl) (fun _ _ _ => trivial) rfl rfl rfl ?_; clear hK a; intro a hK; refine rh_run (i := 4) (d := 35) (v' := .int .i64 (Int.tmod p_0 10)) #[true, true, false, true, true, false, false, false, false, false, false] (by kernel_rfl) hK ⟨_, hE.sel [] rfl rfl⟩ rfl (by kernel_rfl) (by kernel_rfl) (by kernel_rfl) (by kernel_rfl) (fun _ _ _ h => h) (ex_int rfl (fun _ => rfl) (fun _ => rfl) (by kernel_rfl) (fun W => run_rem (by decide) W)) rfl rfl rfl ?_; clear hK a; intro a hK; refine rh_take (i := 5) (d := 36) (v' := .int .i64 (IntKind.i64.wrap (48 + (Int.tmod p_0 10)))) (vs := []) (obs := []) #[true, true, false, true, true, true, false, false, false, false, false] (by kernel_rfl) hK ⟨_, hE.sel [] rfl rfl⟩ rfl (by kernel_rfl) (by kernel_rfl) (by kernel_rfl) (by kernel_rfl) (fun _ _ _ h => h) (fun _ => by kernel_rfl) (fun _ _ _ => trivial) rfl rfl rfl ?_; clear hK a; intro a hK; refine rh_take (i := 6) (d := 37) (v' := .int .u8 (IntKind.u8.wrap (IntKind.i64.wrap (48 + (Int.tmod p_0 10))))) (vs := []) (obs := []) #[true, true, false, true, true, true, true, false, false, false, false] (by kernel_rfl) hK ⟨_, hE.sel [] rfl rfl⟩ rfl (by kernel_rfl) (by kernel_rfl) (by kernel_rfl) (by kernel_rfl) (fun _ _ _ h => h) (fun _ => by kernel_rfl) (fun _ _ _ => trivial) rfl rfl rfl ?_; clear hK a; intro a hK; refine rh_all [2, 7] (by kernel_rfl) (by simp) ⟨?_, ?_, trivial⟩
    ·refine rh_call (d := 33) (f := 96) (args := #[.int .i64 (IntKind.i64.wrap (Int.tdiv p_0 10))]) rfl hK rfl (fun _ => by kernel_rfl) rfl rfl (ih (IntKind.i64.wrap (Int.tdiv p_0 10)) (fun g => g < _) _ (fun _ h => h) (hT.to hE.b)  _ hy_25) ?_; rintro e w_29 ⟨rfl, hb⟩; replace hE := hE.call hb; obtain ⟨S_30, hE⟩ : ∃ S, Es _ _ _ S _ := ⟨_, hE⟩; clear hb; refine ⟨_, rfl, ⟨_, hE.sel [] rfl rfl⟩, ?_⟩; clear hK a; intro a hK; refine rh_all [7] (by kernel_rfl) (by simp) ⟨?_, trivial⟩; refine rh_new (d := 38) (v := fun g => .slice (some ⟨g, 0, none⟩) 1 1) (cs := #[.int .u8 (IntKind.u8.wrap (IntKind.i64.wrap (48 + (Int.tmod p_0 10))))]) (t := 5) rfl hK hE rfl (fun _ _ => by kernel_rfl) rfl rfl ?_; clear hK hE a; intro a g_26 w_31 hK hE; refine ⟨⟨_, hE.sel [] rfl rfl⟩, ?_⟩; refine rh_all [8] (by kernel_rfl) (by simp) ⟨?_, trivial⟩; refine rh_op (d := 39) (v' := .string ⟨List.toArray ([UInt8.ofNat (Int.toNat (IntKind.u8.wrap (IntKind.i64.wrap (48 + (Int.tmod p_0 10)))))] : List UInt8)⟩) (vs := [.int .u8 (IntKind.u8.wrap (IntKind.i64.wrap (48 + (Int.tmod p_0 10))))]) (obs := [(⟨g_26, 0, none⟩, .int .u8 (IntKind.u8.wrap (IntKind.i64.wrap (48 + (Int.tmod p_0 10)))))]) rfl hK ⟨_, hE.sel [] rfl rfl⟩ rfl (fun _ => by kernel_rfl) ⟨((hE.blk 0 rfl).cell 0).trans rfl, trivial⟩ rfl rfl rfl ?_; clear hK a; intro a hK; refine rh_run (i := 9) (d := 40) (v' := .string ⟨List.toArray v_27⟩) #[true, true, true, true, true, true, true, true, true, true, false] (by kernel_rfl) hK ⟨_, hE.sel [] rfl rfl⟩ rfl (by kernel_rfl) (by kernel_rfl) (by kernel_rfl) (by kernel_rfl) (fun _ _ _ h => h) (ex_eq rfl (fun _ => rfl) (fun _ => rfl) (by kernel_rfl) (fun W => run_str_add hy_27 W)) rfl rfl rfl ?_; clear hK a; intro a hK; refine rh_take (i := 10) (d := 2) (v' := .string ⟨List.toArray v_27⟩) (vs := []) (obs := []) #[true, true, true, true, true, true, true, true, true, true, true] (by kernel_rfl) hK ⟨_, hE.sel [] rfl rfl⟩ rfl (by kernel_rfl) (by kernel_rfl) (by kernel_rfl) (by kernel_rfl) (fun _ _ _ h => h) (fun _ => by kernel_rfl) (fun _ _ _ => trivial) rfl rfl rfl ?_; clear hK a; intro a hK; refine wpAnyH_done (by kernel_rfl) ?_ _; refine xt_norm ?_; exact ⟨v_27, _, hK.weak ⟨rfl, trivial⟩, hE.sel [] rfl rfl, Option.some.inj hG⟩
    ·refine rh_new (d := 38) (v := fun g => .slice (some ⟨g, 0, none⟩) 1 1) (cs := #[.int .u8 (IntKind.u8.wrap (IntKind.i64.wrap (48 + (Int.tmod p_0 10))))]) (t := 5) rfl hK hE rfl (fun _ _ => by kernel_rfl) rfl rfl ?_; clear hK hE a; intro a g_26 w_32 hK hE; refine ⟨⟨_, hE.sel [] rfl rfl⟩, ?_⟩; refine rh_all [2, 8] (by kernel_rfl) (by simp) ⟨?_, ?_, trivial⟩
     ·refine rh_call (d := 33) (f := 96) (args := #[.int .i64 (IntKind.i64.wrap (Int.tdiv p_0 10))]) rfl hK rfl (fun _ => by kernel_rfl) rfl rfl (ih (IntKind.i64.wrap (Int.tdiv p_0 10)) (fun g => g < _) _ (fun _ h => h) (hT.to hE.b)  _ hy_25) ?_; rintro e w_33 ⟨rfl, hb⟩; replace hE := hE.call hb; obtain ⟨S_34, hE⟩ : ∃ S, Es _ _ _ S _ := ⟨_, hE⟩; clear hb; refine ⟨_, rfl, ⟨_, hE.sel [] rfl rfl⟩, ?_⟩; clear hK a; intro a hK; refine rh_all [8] (by kernel_rfl) (by simp) ⟨?_, trivial⟩; refine rh_op (d := 39) (v' := .string ⟨List.toArray ([UInt8.ofNat (Int.toNat (IntKind.u8.wrap (IntKind.i64.wrap (48 + (Int.tmod p_0 10)))))] : List UInt8)⟩) (vs := [.int .u8 (IntKind.u8.wrap (IntKind.i64.wrap (48 + (Int.tmod p_0 10))))]) (obs := [(⟨g_26, 0, none⟩, .int .u8 (IntKind.u8.wrap (IntKind.i64.wrap (48 + (Int.tmod p_0 10)))))]) rfl hK ⟨_, hE.sel [] rfl rfl⟩ rfl (fun _ => by kernel_rfl) ⟨((hE.blk 0 rfl).cell 0).trans rfl, trivial⟩ rfl rfl rfl ?_; clear hK a; intro a hK; refine rh_run (i := 9) (d := 40) (v' := .string ⟨List.toArray v_27⟩) #[true, true, true, true, true, true, true, true, true, true, false] (by kernel_rfl) hK ⟨_, hE.sel [] rfl rfl⟩ rfl (by kernel_rfl) (by kernel_rfl) (by kernel_rfl) (by kernel_rfl) (fun _ _ _ h => h) (ex_eq rfl (fun _ => rfl) (fun _ => rfl) (by kernel_rfl) (fun W => run_str_add hy_27 W)) rfl rfl rfl ?_; clear hK a; intro a hK; refine rh_take (i := 10) (d := 2) (v' := .string ⟨List.toArray v_27⟩) (vs := []) (obs := []) #[true, true, true, true, true, true, true, true, true, true, true] (by kernel_rfl) hK ⟨_, hE.sel [] rfl rfl⟩ rfl (by kernel_rfl) (by kernel_rfl) (by kernel_rfl) (by kernel_rfl) (fun _ _ _ h => h) (fun _ => by kernel_rfl) (fun _ _ _ => trivial) rfl rfl rfl ?_; clear hK a; intro a hK; refine wpAnyH_done (by kernel_rfl) ?_ _; refine xt_norm ?_; exact ⟨v_27, _, hK.weak ⟨rfl, trivial⟩, hE.sel [] rfl rfl, Option.some.inj hG⟩
     ·refine rh_op (d := 39) (v' := .string ⟨List.toArray ([UInt8.ofNat (Int.toNat (IntKind.u8.wrap (IntKind.i64.wrap (48 + (Int.tmod p_0 10)))))] : List UInt8)⟩) (vs := [.int .u8 (IntKind.u8.wrap (IntKind.i64.wrap (48 + (Int.tmod p_0 10))))]) (obs := [(⟨g_26, 0, none⟩, .int .u8 (IntKind.u8.wrap (IntKind.i64.wrap (48 + (Int.tmod p_0 10)))))]) rfl hK ⟨_, hE.sel [] rfl rfl⟩ rfl (fun _ => by kernel_rfl) ⟨((hE.blk 0 rfl).cell 0).trans rfl, trivial⟩ rfl rfl rfl ?_; clear hK a; intro a hK; refine rh_all [2] (by kernel_rfl) (by simp) ⟨?_, trivial⟩; refine rh_call (d := 33) (f := 96) (args := #[.int .i64 (IntKind.i64.wrap (Int.tdiv p_0 10))]) rfl hK rfl (fun _ => by kernel_rfl) rfl rfl (ih (IntKind.i64.wrap (Int.tdiv p_0 10)) (fun g => g < _) _ (fun _ h => h) (hT.to hE.b)  _ hy_25) ?_; rintro e w_35 ⟨rfl, hb⟩; replace hE := hE.call hb; obtain ⟨S_36, hE⟩ : ∃ S, Es _ _ _ S _ := ⟨_, hE⟩; clear hb; refine ⟨_, rfl, ⟨_, hE.sel [] rfl rfl⟩, ?_⟩; clear hK a; intro a hK; refine rh_run (i := 9) (d := 40) (v' := .string ⟨List.toArray v_27⟩) #[true, true, true, true, true, true, true, true, true, true, false] (by kernel_rfl) hK ⟨_, hE.sel [] rfl rfl⟩ rfl (by kernel_rfl) (by kernel_rfl) (by kernel_rfl) (by kernel_rfl) (fun _ _ _ h => h) (ex_eq rfl (fun _ => rfl) (fun _ => rfl) (by kernel_rfl) (fun W => run_str_add hy_27 W)) rfl rfl rfl ?_; clear hK a; intro a hK; refine rh_take (i := 10) (d := 2) (v' := .string ⟨List.toArray v_27⟩) (vs := []) (obs := []) #[true, true, true, true, true, true, true, true, true, true, true] (by kernel_rfl) hK ⟨_, hE.sel [] rfl rfl⟩ rfl (by kernel_rfl) (by kernel_rfl) (by kernel_rfl) (by kernel_rfl) (fun _ _ _ h => h) (fun _ => by kernel_rfl) (fun _ _ _ => trivial) rfl rfl rfl ?_; clear hK a; intro a hK; refine wpAnyH_done (by kernel_rfl) ?_ _; refine xt_norm ?_; exact ⟨v_27, _, hK.weak ⟨rfl, trivial⟩, hE.sel [] rfl rfl, Option.some.inj hG⟩
   ·clear hK hE a; rintro a w_39 ⟨v_38, S_40, hK, hE, ho_⟩; subst ho_; replace hG := hG_37; clear hG_37; refine wp_ret ?_; refine vc_ret (v' := .string ⟨List.toArray v_38⟩) (vs := []) (obs := []) hK (fun _ => by kernel_rfl) trivial rfl ?_; obtain rfl := Option.some.inj hG; exact ⟨rfl, hE.b⟩
end Go.Proofs.YtmfjcachghboiaaDoor
namespace Go.Proofs.YtmfjcachghboiaaDoor
open Go.RowKit
theorem apS_ok {a b : List UInt8} (h : a.length + b.length ≤ 9223372036854775807) : apS a b = some (a ++ b) := if_pos h
theorem dig_small {z : Int} (h0 : 0 ≤ z) (h1 : z < 10) : UInt8.ofNat (Int.toNat (IntKind.u8.wrap (IntKind.i64.wrap (48 + z)))) = UInt8.ofNat (48 + z.toNat) := by
 congr 1
 simp only [IntKind.wrap_i64, IntKind.wrap_u8]; omega
theorem decimal_eq : ∀ (F : Nat) (n : Int), -9223372036854775808 ≤ n → n ≤ 9223372036854775807 → n.natAbs < 10 ^ F → G_regulatorref03_Decimal (F + 1) n = some (Lib.itoa n) := by
 intro F
 induction F with
 | zero =>
  intro n h0 h1 h; have : n = 0 := by simp at h; omega
  subst this; rw [itoa_small (by omega) (by omega)]; rfl
 | succ F ih =>
  intro n h0 h1 h; have hp : 10 ^ (F + 1) = 10 * 10 ^ F := by rw [Nat.pow_succ, Nat.mul_comm]
  have len : ∀ z : Int, -9223372036854775808 ≤ z → z ≤ 9223372036854775807 → (Lib.itoa z).length ≤ 21 := fun z a b => by have := numL_len a b; simpa [numL] using this
  unfold G_regulatorref03_Decimal
  by_cases hn : n < 0
  ·rw [show decide (n < 0) = true from decide_eq_true hn]; have hw : IntKind.i64.wrap (Int.tdiv n 10) = -(-n / 10) := by rw [tdiv_neg (by omega), IntKind.wrap_i64]; omega
   simp only [ifB]; rw [hw]
   by_cases hs : -10 < n
   ·rw [show (-(-n / 10) == 0) = true from beq_iff_eq.2 (by omega)]; simp only []; rw [apS_ok (by simp), itoa_negs hn hs]; simp only [Option.bind, List.cons_append, List.nil_append]
    congr 3
    rw [show (48 - n) = 48 + (-n) by omega, dig_small (by omega) (by omega)]
    congr 1
    congr 1
    omega
   ·rw [show (-(-n / 10) == 0) = false from beq_eq_false_iff_ne.2 (by omega)]; simp only []; rw [ih _ (by omega) (by omega) (by omega)]; simp only [Option.bind]; rw [apS_ok (by have := len (-(-n / 10)) (by omega) (by omega); simp only [List.length_cons, List.length_nil]; omega), itoa_negb (n := n) (by omega)]; simp only; rw [tmod_neg (by omega), show (48 - -(-n % 10)) = 48 + (-n % 10) by omega, dig_small (by omega) (by omega), show (-n % 10).toNat = n.natAbs % 10 by omega]
  ·rw [show decide (n < 0) = false from decide_eq_false hn]; simp only [ifB]
   by_cases hs : n < 10
   ·rw [show decide (n < 10) = true from decide_eq_true hs]; simp only []; rw [dig_small (by omega) hs, itoa_small (by omega) hs]
   ·rw [show decide (n < 10) = false from decide_eq_false hs]; simp only []; have hw : IntKind.i64.wrap (Int.tdiv n 10) = n / 10 := by rw [Int.tdiv_eq_ediv_of_nonneg (by omega), IntKind.wrap_i64]; omega
    rw [hw, ih _ (by omega) (by omega) (by omega)]; simp only [Option.bind]; rw [apS_ok (by have := len (n / 10) (by omega) (by omega); simp only [List.length_cons, List.length_nil]; omega), itoa_big (n := n) (by omega)]; simp only; rw [Int.tmod_eq_emod_of_nonneg (by omega), dig_small (by omega) (by omega), show (n % 10).toNat = n.toNat % 10 by omega]
theorem decimal_any (z : Int) (h0 : -9223372036854775808 ≤ z) (h1 : z ≤ 9223372036854775807) (w0 w : World) (hT : Tb w0) (hb : Below w0.heap.size w0 w) : Calls Tryd.prog 96 #[.int .i64 z] w fun e w' => e = .returned (.string ⟨(Lib.itoa z).toArray⟩) ∧ Below w.heap.size w w' :=
 g_regulatorref03_Decimal 26 z (fun _ => False) w (fun _ h => h.elim) (hT.to hb) _ (decimal_eq 25 z h0 h1 (by omega))
set_option maxRecDepth 100000 in
set_option maxHeartbeats 4000000 in
theorem rText_any (zs : List Int) (B : Option Addr) (d : Nat) (w0 w : World) (hT : Tb w0) (hb0 : Below w0.heap.size w0 w) (hz : ∀ W, Below w.heap.size w W → KS .i64 W B zs) (hi : inI zs) (hzl : zs.length ≤ 100000) :
  Calls Tryd.prog 73 #[.slice B zs.length d] w fun e w' => ∃ v, e = .returned v ∧ OwnK .u8 5 w' w.heap.size v (textL zs) ∧ Below w.heap.size w w' := by
 obtain ⟨i0, hi0, hz0, hz1, hz2⟩ := info_parts infoB; have HT := hide hT; have HB0 := hide hb0; have HZ := hide hz; have HI := hide hi; have hsz0 := hb0.size; clear hT hb0 hz hi
 go_enter Tryd.func73, Tryd.ntmps73
 go_wp2
 go_loopw [3, 4] (fun u i wr => ∃ k : Nat, k ≤ zs.length ∧ i = .int .i64 k ∧ OwnK .u8 5 wr w.heap.size u (textL (zs.take k)) ∧ Below w.heap.size w wr) (fun _ i _ => zs.length - (intOf i).toNat)
 case atStart => exact ⟨0, Nat.zero_le _, rfl, by simpa [textL] using OwnK.nil, Below.refl _ _⟩
 case round =>
  obtain ⟨k, hk, rfl, ho, hb⟩ := hrel; have hsz := hb.size
  by_cases hlt : k < zs.length
  ·obtain ⟨b, o, rfl, hbl, hc⟩ := (HZ.out wr hb).at_ (i := k) hlt; have c0 := hc k hlt; have hr := HI.out zs[k] (List.getElem_mem hlt); have HC := hide hc; have hll := textL_len (l := zs.take k) (fun z hz => HI.out z (List.mem_of_mem_take hz)); have hll2 : (textL (zs.take k)).length ≤ 22 * zs.length := Nat.le_trans hll (Nat.mul_le_mul_left _ (by rw [List.length_take]; omega)); have hnl := numL_len hr.1 hr.2; obtain ⟨z, hzk⟩ : ∃ z, z = zs[k] := ⟨_, rfl⟩; rw [← hzk] at c0 hr hnl; have HSN := hide (show textL (zs.take (k + 1)) = textL (zs.take k) ++ numL z ++ [32] by rw [textL_take hlt, ← hzk]); have hr1 := hr.1; have hr2 := hr.2; have HO := hide ho; have HB := hide hb; have DA := hide (decimal_any z hr1 hr2 w0 wr HT.out (HB0.out.trans (hb.mono hsz0))); obtain ⟨L, hL⟩ : ∃ L, L = textL (zs.take k) := ⟨_, rfl⟩; obtain ⟨s, hs⟩ : ∃ s : ByteArray, s = ⟨(Lib.itoa z).toArray⟩ := ⟨_, rfl⟩; have hss : s.size ≤ 21 := by rw [hs]; simpa [ByteArray.size, numL] using hnl
   have hbs : Lib.strCells s = (numL z).map (Value.int .u8) := by rw [hs]; simp [Lib.strCells, numL]
   have hns : s.size = (numL z).length := by rw [hs]; simp [ByteArray.size, numL]
   rw [← hL] at HSN HO hll2; rw [← hs] at DA; have HBS := hide hbs; have HNS := hide hns; clear hc hzk hll hr ho hb hL hs hbs hns
   go_wp2_with (first
    | (go_at_call 96; with_reducible refine DA.out.mono ?_; rintro e w2 ⟨rfl, hb2⟩; have HB2 := hide (HB.out.trans (hb2.mono hsz)); have HO2 := hide (OwnK.below HO.out hb2); have hs2 := hb2.size; clear hb2)
    | (at_builtin; refine Lib.wpList_append_own_string _ rfl _ _ 102 9 rfl w.heap.size 5 i0 Tryd.underlying102 Tryd.underlying9 hi0 hz0 hz1 hz2 _ _ _ rfl HO2.out s rfl (by simp only [maxLen]; omega) (by omega) (by omega) ?_; intro v3 w3 hown3 hgrow3 _; have HO3 := hide (show OwnK .u8 5 w3 w.heap.size v3 (L ++ numL z) from OwnK.app hown3 (by have := HNS.out; simp only [List.length_append]; omega) (by rw [HBS.out])); have HB3 := hide (HB2.out.grown hgrow3 (by omega) (fun g hg => (own_lt HO2.out hg).1)); have hs3 := hgrow3.size; clear hown3 hgrow3)
    | (at_builtin; refine wpList_append_rd _ rfl _ _ 102 rfl w.heap.size 5 i0 _ 1 1 Tryd.underlying102 hi0 hz0 hz1 hz2 rfl (by decide) _ _ _ rfl (own_keep HO3.out (fun g hg => Below.heap_alloc _ _ g (own_lt HO3.out hg).2)) (some ⟨w3.heap.size, 0, none⟩) 1 1 [.int .u8 32] rfl rfl (Rd.new_row _ _ _) (by simp [Value.oneCell']) ?_ ?_ ?_ ?_))
   ·simp only [maxLen, List.length_append]; omega
   ·simp only [List.length_append]; omega
   ·simp; omega
   intro v' w6 hown' hgrow _; have b6 : Below w.heap.size w w6 := (HB3.out.alloc (by omega) _).grown hgrow (by simp; omega) (fun g hg => (own_lt HO3.out hg).1); have hown2 : OwnK .u8 5 w6 w.heap.size v' (textL (zs.take (k + 1))) := by
    rw [HSN.out]; exact OwnK.app (l' := [32]) hown' (by simp only [List.length_append, List.length_cons, List.length_nil]) (by simp)
   have HO6 := hide hown2; have HB6 := hide b6; clear hown' hgrow hown2 b6
   go_wp2
   go_roundw
   case rel => exact ⟨k + 1, by omega, by go_num, HO6.out, HB6.out⟩
   case measure => simp [intOf]; omega
  ·obtain rfl : k = zs.length := by omega
   rw [List.take_length] at ho; have HO6 := hide ho; have HB := hide hb; clear ho hb
   go_wp2
   go_ret
   exact ⟨_, rfl, HO6.out, HB.out⟩
theorem OwnK.low {k : IntKind} {e : TypeId} {w : World} {b1 b2 : Nat} {v : Value} {l : List Int} (h : OwnK k e w b1 v l) (hb : b2 ≤ b1) : OwnK k e w b2 v l := by
 refine ⟨h.1, ?_⟩; rcases h.2 with h2 | ⟨g, cap, cur, hv, hg, r⟩
 ·exact .inl h2
 ·exact .inr ⟨g, cap, cur, hv, Nat.le_trans hb hg, r⟩
def G_regulatorref03_Ints : Nat → (List Int) → Option Int
 | 0, _ => none
 | _ + 1, l => whenG (okI l) (intsF l)
set_option maxRecDepth 100000 in
set_option maxHeartbeats 4000000 in
theorem g_regulatorref03_Ints (F : Nat) (A : Option Addr) (c : Nat) (l : List Int) (S0 : Nat → Prop) (w0 : World) (hS : ∀ g, S0 g → g < w0.heap.size) (hT : Tb w0) (h : RowS S0 w0 A (l.flatMap c_i64)) (hc : l.length ≤ c) (r : Int) (hG : G_regulatorref03_Ints F l = some r) :
  Calls Tryd.prog 86 #[.slice A l.length c] w0 fun e w' => e = .returned (.int .u64 r) ∧ Below w0.heap.size w0 w' := by
 cases F with
 | zero => cases hG
 | succ F =>
 obtain ⟨h1, rfl⟩ := whenG_some hG; obtain ⟨h2, h3⟩ := of_decide_eq_true h1; have hlen := textL_len h2; obtain ⟨L, hL⟩ : ∃ L, L = textL l := ⟨_, rfl⟩; have hLl : L.length ≤ 9223372036854775807 := by rw [hL]; omega
 have hR : intsF l = sumB L := by rw [hL]; rfl
 have T1 := rText_any l A c w0 w0 hT (Below.refl _ _) (ks_low hS h) h2 h3; rw [← hL] at T1; rw [hR]; have T1 := hide T1; have HS := hide fun A c W s => rSum_any A c L W hLl s
 clear hG h1 h hS hT hlen h2 hL hLl hR h3
 go_enter Tryd.func86, Tryd.ntmps86
 go_wp2_with (first
  | (go_at_call 73; with_reducible refine T1.out.mono ?_; rintro e w3 ⟨v3, rfl, ho3, hb3⟩; obtain ⟨A3, c3, rfl, hl3, hm3, hk3⟩ := ho3.form; have B3 := hide hb3; have K3 := hide hk3; clear ho3 hb3 hk3)
  | (go_at_call 74; with_reducible refine (HS.out A3 c3 _ K3.out).mono ?_; rintro e w4 ⟨rfl, rfl⟩))
 go_ret
 exact ⟨rfl, B3.out⟩
def G_regulatorref03_Next : Nat → Int → (List Int) → Option Int
 | 0, _, _ => none
 | _ + 1, d, l => whenG (decide (inI l ∧ l.length ≤ 10000 ∧ 1 ≤ l.length)) (nextF d l)
set_option maxRecDepth 100000 in
set_option maxHeartbeats 4000000 in
theorem g_regulatorref03_Next (F : Nat) (n : Int) (A : Option Addr) (c : Nat) (l : List Int) (S0 : Nat → Prop) (w0 : World) (hS : ∀ g, S0 g → g < w0.heap.size) (hT : Tb w0) (h : RowS S0 w0 A (l.flatMap c_i64)) (hc : l.length ≤ c) (r : Int) (hG : G_regulatorref03_Next F n l = some r) :
  Calls Tryd.prog 37 #[.int .u64 n, .slice A l.length c] w0 fun e w' => e = .returned (.int .u64 r) ∧ Below w0.heap.size w0 w' := by
 cases F with
 | zero => cases hG
 | succ F =>
 obtain ⟨h1, rfl⟩ := whenG_some hG; obtain ⟨h2, h3, h4⟩ := of_decide_eq_true h1; have hlen := textL_len h2; obtain ⟨i0, hi0, hz0, hz1, hz2⟩ := info_parts infoB; obtain ⟨T, hTt⟩ : ∃ T, T = textL l := ⟨_, rfl⟩; obtain ⟨D, hD⟩ : ∃ D, D = octL n := ⟨_, rfl⟩; obtain ⟨L, hL⟩ : ∃ L, L = D ++ T := ⟨_, rfl⟩; have hTl : T.length ≤ 300000 := by rw [hTt]; omega
 have hDl : D.length = 8 := by rw [hD]; rfl
 have hLl : L.length ≤ 9223372036854775807 := by rw [hL, List.length_append]; omega
 have hR : nextF n l = sumB L := by rw [hL, hD, hTt]; rfl
 have T1 : Hid (∀ w, Below w0.heap.size w0 w → Calls Tryd.prog 73 #[.slice A l.length c] w fun e w' => ∃ v, e = .returned v ∧ OwnK .u8 5 w' w.heap.size v T ∧ Below w.heap.size w w') := by
  refine hide fun w hb => ?_
  rw [hTt]; exact rText_any l A c w0 w hT hb (fun W hW => ks_low hS h W (hb.trans (hW.mono hb.size))) h2 (by omega)
 have T0 : Hid (∀ w, Calls Tryd.prog 72 #[.int .u64 n] w fun e w' => ∃ v, e = .returned v ∧ OwnK .u8 5 w' w.heap.size v D ∧ Below w.heap.size w w') := by
  refine hide fun w => ?_
  rw [hD]; exact eight_any n w
 have HS := hide fun A c W s => rSum_any A c L W hLl s
 have HL := hide hL; have HTL := hide hTl; have HDL := hide hDl; have HLL := hide (show L.length = D.length + T.length by rw [hL, List.length_append]); rw [hR]; clear hG h1 h hS hT hlen h2 hL hLl hR h3 h4 hTt hD hTl hDl
 go_enter Tryd.func37, Tryd.ntmps37
 go_wp2_with (first
  | (go_at_call 72; with_reducible refine (T0.out _).mono ?_; rintro e w2 ⟨v2, rfl, ho2, hb2⟩; have O2 := hide ho2; have B2 := hide hb2; clear ho2 hb2)
  | (go_at_call 73; with_reducible refine (T1.out w2 B2.out).mono ?_; rintro e w3 ⟨v3, rfl, ho3, hb3⟩; have O3 := hide (OwnK.below O2.out hb3); have B3 := hide (B2.out.trans (hb3.mono B2.out.size)); obtain ⟨A3, c3, rfl, hl3, hm3, hk3⟩ := ho3.form; have K3 := hide hk3; clear ho3 hb3 hk3)
  | (at_builtin; refine wpList_append_rd _ rfl _ _ 102 rfl w0.heap.size 5 i0 _ 1 1 Tryd.underlying102 hi0 hz0 hz1 hz2 rfl (by decide) _ _ _ rfl O3.out A3 T.length c3 (T.map (Value.int .u8)) rfl (by simp) K3.out (by intro u hu; obtain ⟨b, _, rfl⟩ := List.mem_map.1 hu; rfl) (by have := HTL.out; have := HDL.out; simp only [maxLen]; omega) (by have := HTL.out; have := HDL.out; omega) B3.out.size ?_; intro v6 w6 hown6 hgrow6 _; have O6 := hide (show OwnK .u8 5 w6 w0.heap.size v6 L from HL.out ▸ OwnK.app hown6 (by simp only [List.length_append]) rfl); have B6 := hide (B3.out.grown hgrow6 B3.out.size (fun g hg => (own_lt O3.out hg).1)); obtain ⟨A6, c6, rfl, hl6, hm6, hk6⟩ := O6.out.form; have K6 := hide hk6; clear hown6 hgrow6 hk6)
  | (go_at_call 74; with_reducible refine (HS.out A6 c6 _ K6.out).mono ?_; rintro e w4 ⟨rfl, rfl⟩))
 go_ret
 exact ⟨rfl, B6.out⟩
def G_tree_Root : Nat → (List Int) → Option (Int × Int)
 | 0, _ => none
 | _ + 1, l => some (rootS l)
theorem g_tree_Root (F : Nat) (A : Option Addr) (c : Nat) (l : List Int) (S0 : Nat → Prop) (w0 : World) (hS : ∀ g, S0 g → g < w0.heap.size) (hT : Tb w0) (h : RowS S0 w0 A (l.flatMap c_u64)) (hc : l.length ≤ c) (r : Int × Int) (hG : G_tree_Root F l = some r) :
  Calls Tryd.prog 77 #[.slice A l.length c] w0 fun e w' => e = .returned (.tuple #[.int .u64 r.1, .int .i64 r.2]) ∧ Below w0.heap.size w0 w' := by
 cases F with
 | zero => cases hG
 | succ F =>
 obtain rfl := Option.some.inj hG; exact Root_any A c l w0 hc h.ks
def G_regulatorref24_Root : Nat → (List Int) → Option (Int × Int)
 | 0, _ => none
 | _ + 1, l => some (rootS l)
theorem g_regulatorref24_Root (F : Nat) (A : Option Addr) (c : Nat) (l : List Int) (S0 : Nat → Prop) (w0 : World) (hS : ∀ g, S0 g → g < w0.heap.size) (hT : Tb w0) (h : RowS S0 w0 A (l.flatMap c_u64)) (hc : l.length ≤ c) (r : Int × Int) (hG : G_regulatorref24_Root F l = some r) :
  Calls Tryd.prog 45 #[.slice A l.length c] w0 fun e w' => e = .returned (.tuple #[.int .u64 r.1, .int .i64 r.2]) ∧ Below w0.heap.size w0 w' := by
 cases F with
 | zero => cases hG
 | succ F =>
 obtain rfl := Option.some.inj hG; exact rRoot_any A c l w0 hc h.ks
def G_tree_Include : Nat → (List Int) → Int → Option (List Int × Int)
 | 0, _, _ => none
 | _ + 1, l, i => some (incS l i)
theorem g_tree_Include (F : Nat) (A : Option Addr) (c : Nat) (l : List Int) (i : Int) (S0 : Nat → Prop) (w0 : World) (hS : ∀ g, S0 g → g < w0.heap.size) (hT : Tb w0) (h : RowS S0 w0 A (l.flatMap c_u64)) (hc : l.length ≤ c) (r : List Int × Int) (hG : G_tree_Include F l i = some r) :
  Calls Tryd.prog 52 #[.slice A l.length c, .int .i64 i] w0 fun e w' => ∃ (q_0_A : Option Addr), ∃ (q_0_c : Nat), ∃ (q_0 : List Int), (r.1 = q_0) ∧ e = .returned (.tuple #[.slice q_0_A q_0.length q_0_c, .int .i64 r.2]) ∧ Below w0.heap.size w0 w' ∧ (RowS (ext S0 w0 w') w' q_0_A (q_0.flatMap c_u64)) ∧ (q_0.length ≤ q_0_c) := by
 cases F with
 | zero => cases hG
 | succ F =>
 obtain rfl := Option.some.inj hG; exact (Include_anyF A c l i w0 hc h.ks).mono fun e w' ⟨A1, c1, h1, h2, _, h4, h5⟩ => ⟨A1, c1, _, rfl, h1, h5, row_fresh h4.1 h4.2, h2⟩
def G_regulatorref24_Include : Nat → (List Int) → Int → Option (List Int × Int)
 | 0, _, _ => none
 | _ + 1, l, i => some (incS l i)
theorem g_regulatorref24_Include (F : Nat) (A : Option Addr) (c : Nat) (l : List Int) (i : Int) (S0 : Nat → Prop) (w0 : World) (hS : ∀ g, S0 g → g < w0.heap.size) (hT : Tb w0) (h : RowS S0 w0 A (l.flatMap c_u64)) (hc : l.length ≤ c) (r : List Int × Int) (hG : G_regulatorref24_Include F l i = some r) :
  Calls Tryd.prog 54 #[.slice A l.length c, .int .i64 i] w0 fun e w' => ∃ (q_0_A : Option Addr), ∃ (q_0_c : Nat), ∃ (q_0 : List Int), (r.1 = q_0) ∧ e = .returned (.tuple #[.slice q_0_A q_0.length q_0_c, .int .i64 r.2]) ∧ Below w0.heap.size w0 w' ∧ (RowS (ext S0 w0 w') w' q_0_A (q_0.flatMap c_u64)) ∧ (q_0.length ≤ q_0_c) := by
 cases F with
 | zero => cases hG
 | succ F =>
 obtain rfl := Option.some.inj hG; exact (rInclude_anyF A c l i w0 hc h.ks).mono fun e w' ⟨A1, c1, h1, h2, _, h4, h5⟩ => ⟨A1, c1, _, rfl, h1, h5, row_fresh h4.1 h4.2, h2⟩
def G_tree_Included : Nat → Int → Int → Int → Int → (List Int) → Option Bool
 | 0, _, _, _, _, _ => none
 | _ + 1, root, leaf, i, n, path => whenG (decide (path.length ≤ 9223372036854775807)) (inclS root leaf i n path)
theorem g_tree_Included (F : Nat) (root leaf i n : Int) (A : Option Addr) (c : Nat) (path : List Int) (S0 : Nat → Prop) (w0 : World) (hS : ∀ g, S0 g → g < w0.heap.size) (hT : Tb w0) (h : RowS S0 w0 A (path.flatMap c_u64)) (hc : path.length ≤ c) (r : Bool) (hG : G_tree_Included F root leaf i n path = some r) :
  Calls Tryd.prog 55 #[.int .u64 root, .int .u64 leaf, .int .i64 i, .int .i64 n, .slice A path.length c] w0 fun e w' => e = .returned (.bool r) ∧ Below w0.heap.size w0 w' := by
 cases F with
 | zero => cases hG
 | succ F =>
 obtain ⟨h1, rfl⟩ := whenG_some hG; exact included_any root leaf i n A c path w0 (of_decide_eq_true h1) h.ks
def G_regulatorref24_Included : Nat → Int → Int → Int → Int → (List Int) → Option Bool
 | 0, _, _, _, _, _ => none
 | _ + 1, root, leaf, i, n, path => whenG (decide (path.length ≤ 100)) (inclS root leaf i n path)
theorem g_regulatorref24_Included (F : Nat) (root leaf i n : Int) (A : Option Addr) (c : Nat) (path : List Int) (S0 : Nat → Prop) (w0 : World) (hS : ∀ g, S0 g → g < w0.heap.size) (hT : Tb w0) (h : RowS S0 w0 A (path.flatMap c_u64)) (hc : path.length ≤ c) (r : Bool) (hG : G_regulatorref24_Included F root leaf i n path = some r) :
  Calls Tryd.prog 33 #[.int .u64 root, .int .u64 leaf, .int .i64 i, .int .i64 n, .slice A path.length c] w0 fun e w' => e = .returned (.bool r) ∧ Below w0.heap.size w0 w' := by
 cases F with
 | zero => cases hG
 | succ F =>
 obtain ⟨h1, rfl⟩ := whenG_some hG; exact rIncluded_any root leaf i n A c path w0 (of_decide_eq_true h1) hc h.ks
end Go.Proofs.YtmfjcachghboiaaDoor
namespace Go.Proofs.YtmfjcachghboiaaDoor
open Go.RowKit Go.Maps
structure KInterval where
 Lo : Int
 Hi : Int
 deriving DecidableEq
def KInterval.cells (x : KInterval) : List Value := [.int .i64 x.Lo, .int .i64 x.Hi]
theorem KInterval.one (l : List KInterval) : ∀ u ∈ l.flatMap KInterval.cells, u.oneCell' = true := by
 intro u hu; obtain ⟨x, _, hx⟩ := List.mem_flatMap.1 hu; simp only [KInterval.cells, List.mem_cons, List.not_mem_nil, or_false] at hx; rcases hx with rfl | rfl <;> rfl
structure KEntry where
 Doc : Int
 Stamp : KInterval
 deriving DecidableEq
def KEntry.cells (x : KEntry) : List Value := [.int .u64 x.Doc, .int .i64 x.Stamp.Lo, .int .i64 x.Stamp.Hi]
theorem KEntry.one (l : List KEntry) : ∀ u ∈ l.flatMap KEntry.cells, u.oneCell' = true := by
 intro u hu; obtain ⟨x, _, hx⟩ := List.mem_flatMap.1 hu; simp only [KEntry.cells, List.mem_cons, List.not_mem_nil, or_false] at hx; rcases hx with rfl | rfl | rfl <;> rfl
structure KOffice where
 ID : Int
 Entries : List KEntry
 deriving DecidableEq
structure KOfficeL where
 ID : Int
 Entries_A : Option Addr
 Entries_c : Nat
 Entries : List KEntry
def KOfficeL.p (x : KOfficeL) : KOffice := ⟨x.ID, x.Entries⟩
def KOfficeL.cells (x : KOfficeL) : List Value := [.int .i64 x.ID, .slice x.Entries_A x.Entries.length x.Entries_c]
structure KOfficeL.ok (S : Nat → Prop) (w : World) (x : KOfficeL) : Prop where
 f_Entries : RowS S w x.Entries_A (x.Entries.flatMap KEntry.cells)
 c_Entries : x.Entries.length ≤ x.Entries_c
theorem KOfficeL.ok.to {S S' : Nat → Prop} {w W : World} {x : KOfficeL} (h : KOfficeL.ok S w x) (hS : ∀ g, S g → S' g) (hA : Ag S w W) : KOfficeL.ok S' W x := ⟨h.f_Entries.to hS hA, h.c_Entries⟩
theorem KOfficeL.one (l : List KOfficeL) : ∀ u ∈ l.flatMap KOfficeL.cells, u.oneCell' = true := by
 intro u hu; obtain ⟨x, _, hx⟩ := List.mem_flatMap.1 hu; simp only [KOfficeL.cells, List.mem_cons, List.not_mem_nil, or_false] at hx; rcases hx with rfl | rfl <;> rfl
structure KSig where
 C : Int
 S : Int
 deriving DecidableEq
def KSig.cells (x : KSig) : List Value := [.int .i64 x.C, .int .i64 x.S]
theorem KSig.one (l : List KSig) : ∀ u ∈ l.flatMap KSig.cells, u.oneCell' = true := by
 intro u hu; obtain ⟨x, _, hx⟩ := List.mem_flatMap.1 hu; simp only [KSig.cells, List.mem_cons, List.not_mem_nil, or_false] at hx; rcases hx with rfl | rfl <;> rfl
structure KHead where
 Office : Int
 Size : Int
 Root : Int
 Sig : KSig
 deriving DecidableEq
def KHead.cells (x : KHead) : List Value := [.int .i64 x.Office, .int .i64 x.Size, .int .u64 x.Root, .int .i64 x.Sig.C, .int .i64 x.Sig.S]
theorem KHead.one (l : List KHead) : ∀ u ∈ l.flatMap KHead.cells, u.oneCell' = true := by
 intro u hu; obtain ⟨x, _, hx⟩ := List.mem_flatMap.1 hu; simp only [KHead.cells, List.mem_cons, List.not_mem_nil, or_false] at hx; rcases hx with rfl | rfl | rfl | rfl | rfl <;> rfl
structure KReceipt where
 Head : KHead
 Index : Int
 Entry : KEntry
 Path : List Int
 deriving DecidableEq
structure KReceiptL where
 Head : KHead
 Index : Int
 Entry : KEntry
 Path_A : Option Addr
 Path_c : Nat
 Path : List Int
def KReceiptL.p (x : KReceiptL) : KReceipt := ⟨x.Head, x.Index, x.Entry, x.Path⟩
def KReceiptL.cells (x : KReceiptL) : List Value := [.int .i64 x.Head.Office, .int .i64 x.Head.Size, .int .u64 x.Head.Root, .int .i64 x.Head.Sig.C, .int .i64 x.Head.Sig.S, .int .i64 x.Index, .int .u64 x.Entry.Doc, .int .i64 x.Entry.Stamp.Lo, .int .i64 x.Entry.Stamp.Hi, .slice x.Path_A x.Path.length x.Path_c]
structure KReceiptL.ok (S : Nat → Prop) (w : World) (x : KReceiptL) : Prop where
 f_Path : RowS S w x.Path_A (x.Path.flatMap c_u64)
 c_Path : x.Path.length ≤ x.Path_c
theorem KReceiptL.ok.to {S S' : Nat → Prop} {w W : World} {x : KReceiptL} (h : KReceiptL.ok S w x) (hS : ∀ g, S g → S' g) (hA : Ag S w W) : KReceiptL.ok S' W x := ⟨h.f_Path.to hS hA, h.c_Path⟩
theorem KReceiptL.one (l : List KReceiptL) : ∀ u ∈ l.flatMap KReceiptL.cells, u.oneCell' = true := by
 intro u hu; obtain ⟨x, _, hx⟩ := List.mem_flatMap.1 hu; simp only [KReceiptL.cells, List.mem_cons, List.not_mem_nil, or_false] at hx; rcases hx with rfl | rfl | rfl | rfl | rfl | rfl | rfl | rfl | rfl | rfl <;> rfl
structure Koffice_logged where
 Entry : KEntry
 deriving DecidableEq
def Koffice_logged.cells (x : Koffice_logged) : List Value := [.int .u64 x.Entry.Doc, .int .i64 x.Entry.Stamp.Lo, .int .i64 x.Entry.Stamp.Hi]
theorem Koffice_logged.one (l : List Koffice_logged) : ∀ u ∈ l.flatMap Koffice_logged.cells, u.oneCell' = true := by
 intro u hu; obtain ⟨x, _, hx⟩ := List.mem_flatMap.1 hu; simp only [Koffice_logged.cells, List.mem_cons, List.not_mem_nil, or_false] at hx; rcases hx with rfl | rfl | rfl <;> rfl
structure K8_uint8 where
 f0 : Int
 f1 : Int
 f2 : Int
 f3 : Int
 f4 : Int
 f5 : Int
 f6 : Int
 f7 : Int
 deriving DecidableEq
def K8_uint8.cells (x : K8_uint8) : List Value := [.int .u8 x.f0, .int .u8 x.f1, .int .u8 x.f2, .int .u8 x.f3, .int .u8 x.f4, .int .u8 x.f5, .int .u8 x.f6, .int .u8 x.f7]
theorem K8_uint8.one (l : List K8_uint8) : ∀ u ∈ l.flatMap K8_uint8.cells, u.oneCell' = true := by
 intro u hu; obtain ⟨x, _, hx⟩ := List.mem_flatMap.1 hu; simp only [K8_uint8.cells, List.mem_cons, List.not_mem_nil, or_false] at hx; rcases hx with rfl | rfl | rfl | rfl | rfl | rfl | rfl | rfl <;> rfl
theorem eql_KHead (x y : KHead) (w : World) : (binOp .eql 33 (.agg #[.int .i64 x.Office, .int .i64 x.Size, .int .u64 x.Root, .int .i64 x.Sig.C, .int .i64 x.Sig.S]) (.agg #[.int .i64 y.Office, .int .i64 y.Size, .int .u64 y.Root, .int .i64 y.Sig.C, .int .i64 y.Sig.S])).run Tryd.prog w = .ok (.bool (decide (x = y))) w := by
 have u0 := Tryd.underlying3; have u1 := Tryd.underlying25; have u2 := Tryd.underlying31; rw [run_eql_struct, show (10000 : Nat) = 9999 + 1 from rfl, run_equalIn_agg w 9999 33 _ _ (by kernel_rfl) (by kernel_rfl)]; have he : ∀ x y : KHead, x = y ↔ x.Office = y.Office ∧ x.Size = y.Size ∧ x.Root = y.Root ∧ x.Sig.C = y.Sig.C ∧ x.Sig.S = y.Sig.S := fun x y => ⟨fun h => by subst h; simp, fun h => by obtain ⟨x_0, x_1, x_2, ⟨x_3, x_4⟩⟩ := x; obtain ⟨y_0, y_1, y_2, ⟨y_3, y_4⟩⟩ := y; dsimp only at h; (obtain ⟨rfl, rfl, rfl, rfl, rfl⟩ := h); rfl⟩
 rw [show decide (x = y) = decide (x.Office = y.Office ∧ x.Size = y.Size ∧ x.Root = y.Root ∧ x.Sig.C = y.Sig.C ∧ x.Sig.S = y.Sig.S) from decide_eq_decide.2 (he x y)]; simp only [Program.fieldsOf, Tryd.underlying33]
 go_simp
 by_cases h0 : x.Office = y.Office <;> by_cases h1 : x.Size = y.Size <;> by_cases h2 : x.Root = y.Root <;> by_cases h3 : x.Sig.C = y.Sig.C <;> by_cases h4 : x.Sig.S = y.Sig.S <;> simp [*]
theorem neq_KHead (x y : KHead) (w : World) : (binOp .neq 33 (.agg #[.int .i64 x.Office, .int .i64 x.Size, .int .u64 x.Root, .int .i64 x.Sig.C, .int .i64 x.Sig.S]) (.agg #[.int .i64 y.Office, .int .i64 y.Size, .int .u64 y.Root, .int .i64 y.Sig.C, .int .i64 y.Sig.S])).run Tryd.prog w = .ok (.bool (!decide (x = y))) w := by
 have u0 := Tryd.underlying3; have u1 := Tryd.underlying25; have u2 := Tryd.underlying31; rw [run_neq_struct, show (10000 : Nat) = 9999 + 1 from rfl, run_equalIn_agg w 9999 33 _ _ (by kernel_rfl) (by kernel_rfl)]; have he : ∀ x y : KHead, x = y ↔ x.Office = y.Office ∧ x.Size = y.Size ∧ x.Root = y.Root ∧ x.Sig.C = y.Sig.C ∧ x.Sig.S = y.Sig.S := fun x y => ⟨fun h => by subst h; simp, fun h => by obtain ⟨x_0, x_1, x_2, ⟨x_3, x_4⟩⟩ := x; obtain ⟨y_0, y_1, y_2, ⟨y_3, y_4⟩⟩ := y; dsimp only at h; (obtain ⟨rfl, rfl, rfl, rfl, rfl⟩ := h); rfl⟩
 rw [show decide (x = y) = decide (x.Office = y.Office ∧ x.Size = y.Size ∧ x.Root = y.Root ∧ x.Sig.C = y.Sig.C ∧ x.Sig.S = y.Sig.S) from decide_eq_decide.2 (he x y)]; simp only [Program.fieldsOf, Tryd.underlying33]
 go_simp
 by_cases h0 : x.Office = y.Office <;> by_cases h1 : x.Size = y.Size <;> by_cases h2 : x.Root = y.Root <;> by_cases h3 : x.Sig.C = y.Sig.C <;> by_cases h4 : x.Sig.S = y.Sig.S <;> simp [*]
theorem eql_KSig (x y : KSig) (w : World) : (binOp .eql 31 (.agg #[.int .i64 x.C, .int .i64 x.S]) (.agg #[.int .i64 y.C, .int .i64 y.S])).run Tryd.prog w = .ok (.bool (decide (x = y))) w := by
 have u0 := Tryd.underlying3; rw [run_eql_struct, show (10000 : Nat) = 9999 + 1 from rfl, run_equalIn_agg w 9999 31 _ _ (by kernel_rfl) (by kernel_rfl)]; have he : ∀ x y : KSig, x = y ↔ x.C = y.C ∧ x.S = y.S := fun x y => ⟨fun h => by subst h; simp, fun h => by obtain ⟨x_0, x_1⟩ := x; obtain ⟨y_0, y_1⟩ := y; dsimp only at h; (obtain ⟨rfl, rfl⟩ := h); rfl⟩
 rw [show decide (x = y) = decide (x.C = y.C ∧ x.S = y.S) from decide_eq_decide.2 (he x y)]; simp only [Program.fieldsOf, Tryd.underlying31]
 go_simp
 by_cases h0 : x.C = y.C <;> by_cases h1 : x.S = y.S <;> simp [*]
theorem neq_KEntry (x y : KEntry) (w : World) : (binOp .neq 29 (.agg #[.int .u64 x.Doc, .int .i64 x.Stamp.Lo, .int .i64 x.Stamp.Hi]) (.agg #[.int .u64 y.Doc, .int .i64 y.Stamp.Lo, .int .i64 y.Stamp.Hi])).run Tryd.prog w = .ok (.bool (!decide (x = y))) w := by
 have u0 := Tryd.underlying3; have u1 := Tryd.underlying25; have u2 := Tryd.underlying27; rw [run_neq_struct, show (10000 : Nat) = 9999 + 1 from rfl, run_equalIn_agg w 9999 29 _ _ (by kernel_rfl) (by kernel_rfl)]; have he : ∀ x y : KEntry, x = y ↔ x.Doc = y.Doc ∧ x.Stamp.Lo = y.Stamp.Lo ∧ x.Stamp.Hi = y.Stamp.Hi := fun x y => ⟨fun h => by subst h; simp, fun h => by obtain ⟨x_0, ⟨x_1, x_2⟩⟩ := x; obtain ⟨y_0, ⟨y_1, y_2⟩⟩ := y; dsimp only at h; (obtain ⟨rfl, rfl, rfl⟩ := h); rfl⟩
 rw [show decide (x = y) = decide (x.Doc = y.Doc ∧ x.Stamp.Lo = y.Stamp.Lo ∧ x.Stamp.Hi = y.Stamp.Hi) from decide_eq_decide.2 (he x y)]; simp only [Program.fieldsOf, Tryd.underlying29]
 go_simp
 by_cases h0 : x.Doc = y.Doc <;> by_cases h1 : x.Stamp.Lo = y.Stamp.Lo <;> by_cases h2 : x.Stamp.Hi = y.Stamp.Hi <;> simp [*]
end Go.Proofs.YtmfjcachghboiaaDoor
