/-
  Texts joined: Au, Dp, Dr, Tr1, Tr2, Tr3, Ta, RevV0, Wk, In, Kr, InsK, Ic, Ex, Ed, Ee, Ra, Rl, Ri, Rx, Ht, Dy.
-/
import Derived.Lib.Walk
import Derived.Lib.ItoaWalk
import Derived.Lib.AppendIntMem
import Derived.Lib.Slices
import Derived.Lib.Hide
import Derived.Sort.Row
import Derived.Laws.IdiomStrings
import Derived.Laws.BitsLemmas
import Derived.Laws.Bits64
import Derived.Test.YtmfjcachghboiaaDoorProg
import Derived.Deep.RegionLaw
import Derived.Deep.RegionHeld3
import Derived.Test.YtmfjcachghboiaaDoorJe0
namespace Go.Proofs.YtmfjcachghboiaaDoor
open Go.RowKit Go.Sort
def decL (u : Nat) : List Int := (Lib.decDigits u).map fun b => (b.toNat : Int)
theorem byteCells_dec (u : Nat) : Lib.byteCells (Lib.decDigits u) = (decL u).map (Value.int .u8) := by simp [Lib.byteCells, decL]
theorem dec_len {u : Nat} (hu : u < 18446744073709551616) : (Lib.decDigits u).length ≤ 20 := by
 rw [Lib.decDigits_length]; rcases Nat.eq_zero_or_pos u with h | h
 ·subst h; rw [Lib.nDigits_small (by omega)]; omega
 ·have := Lib.numDigits_eq u h hu; split at this <;> omega
theorem dec_pos (u : Nat) : 1 ≤ (Lib.decDigits u).length := by
 rcases Nat.lt_or_ge u 10 with h | h
 ·rw [Lib.decDigits_one h]; simp
 ·rw [dec_big (by omega)]; simp
theorem srcBytes {w : World} {A : Addr} {n c : Nat} {bs : List UInt8} (hn : bs.length = n) (h : ∀ j u, (Lib.byteCells bs)[j]? = some u → w.cell? (A.add j) = some u) : Src Tryd.prog 1 102 (.slice (some A) n c) n (Lib.byteCells bs) w :=
 Src.ofSlice _ Tryd.underlying102 A n c _ (by rw [Lib.byteCells_length, hn, Nat.mul_one]) h (fun u hu => by simp only [Lib.byteCells, List.mem_map] at hu; obtain ⟨b, _, rfl⟩ := hu; rfl)
set_option maxRecDepth 100000 in
set_option maxHeartbeats 4000000 in
theorem auS (u : Nat) (hu : u < 100) (A : Option Addr) (n : Nat) (l : List Int) (w : World) (hl : l.length = n) (hn : n ≤ 100000) (h : KS .u8 w A l) :
  Calls Tryd.prog 105 #[.slice A n n, .int .u64 u, .int .i64 10] w fun e w' => ∃ v, e = .returned v ∧ OwnK .u8 5 w' w.heap.size v (l ++ decL u) ∧ Below w.heap.size w w' := by
 obtain ⟨i0, hi, hz0, hz1, hz2⟩ := info_parts infoB; have hlen := dec_len (u := u) (by omega); have hpos := dec_pos u; have hsz : (⟨(Lib.decDigits u).toArray⟩ : ByteArray).size = (Lib.decDigits u).length := by simp [ByteArray.size]
 have hbc : byteCells ⟨(Lib.decDigits u).toArray⟩ = (decL u).map (Value.int .u8) := by simp [byteCells, decL]
 have q1 : decide ((u : Int) < 100) = true := decide_eq_true (by omega); have hw1 : IntKind.i64.wrap (u : Int) = u := IntWalk.i64_in _ (by omega); have HS := hide hsz; have HB := hide hbc; have HL := hide hlen; have HP := hide hpos; clear hsz hbc hlen hpos
 go_enter Tryd.func105, Tryd.ntmps105
 go_wp2_with (first
  | (go_at_call 106; refine (Tryd.internal_strconv_small u hu _).mono ?_; rintro e w2 ⟨rfl, rfl⟩)
  | (at_builtin; refine wpList_append_src_grows _ rfl _ _ 102 9 rfl 5 i0 _ 1 1 Tryd.underlying102 hi hz0 hz1 hz2 rfl A n n rfl (l.map (Value.int .u8)) (by simp [hl]) h (.string ⟨(Lib.decDigits u).toArray⟩) _ _ rfl (Src.ofString _ Tryd.underlying9 ⟨(Lib.decDigits u).toArray⟩) (by have := HS.out; have := HP.out; omega) ?_ ?_ ?_))
 ·have := HS.out; have := HL.out; simp only [maxLen]; omega
 ·have := HS.out; have := HL.out; omega
 intro v' w' hown hgrow
 go_wp2
 go_ret
 refine ⟨v', rfl, ?_, Below.of_grown hgrow⟩; refine OwnK.app hown (by have := HS.out; simp only [List.length_append, decL, List.length_map]; omega) ?_; rw [HB.out]
set_option maxRecDepth 100000 in
set_option maxHeartbeats 12800000 in
theorem auB (u : Nat) (hu : 100 ≤ u) (hu64 : u < 18446744073709551616) (A : Option Addr) (n : Nat) (l : List Int) (w : World) (hl : l.length = n) (hn : n ≤ 100000) (h : KS .u8 w A l)
  (htab : Lib.TabIs Tryd.prog w "internal/strconv.uint64pow10" .u64 Lib.pow10Tab) :
  Calls Tryd.prog 105 #[.slice A n n, .int .u64 u, .int .i64 10] w fun e w' => ∃ v, e = .returned v ∧ OwnK .u8 5 w' w.heap.size v (l ++ decL u) ∧ Below w.heap.size w w' := by
 obtain ⟨i0, hi, hz0, hz1, hz2⟩ := info_parts infoB; have hu1 : 1 ≤ u := by omega
 have hnd20 : Lib.nDigits u ≤ 20 := by have := Lib.numDigits_eq u hu1 hu64; split at this <;> omega
 have hpos := dec_pos u; have hal : Tryd.prog.arrayLen 127 = 24 := by kernel_rfl
 have hsl : ∀ W, (Instr.sliceAt 127 (.pointer (some ⟨w.heap.size, 0, none⟩)) none (some (.int .i64 (Lib.nDigits u : Int))) none).run Tryd.prog W = .ok (.slice (some ⟨w.heap.size, 0, none⟩) (Lib.nDigits u) 24) W := fun W => by
  rw [run_sliceAt_array_h W 127 ⟨w.heap.size, 0, none⟩ (by simp [Program.arrayLen, Program.elem, Tryd.underlying127]) .i64 (Lib.nDigits u : Int) (by omega) (by rw [hal]; omega)]; have hz : ∀ W, (sizeOf (Tryd.prog.elem 127)).run Tryd.prog W = .ok 1 W := fun W => by kernel_rfl
  go_simp
 have hH0 := Lib.holds_zero0 w 127 (Lib.nDigits u) (by omega); have hfmt := Tryd.internal_strconv_formatBase10 w.heap.size 0 24 u (Array.replicate (Lib.nDigits u) 0) (w.alloc (.cells Lib.zeros24 127)) hH0 (by rw [Array.size_replicate]; exact Lib.lt_pow_nDigits u) hu64 (by rw [Array.size_replicate]; omega); rw [Array.size_replicate] at hfmt; have HH0 := Lib.hid hH0; have iu : (100 : Int) ≤ (u : Int) := by omega
 have HK := hide h; have HP := hide hpos; clear hH0 hal h hpos
 go_enter Tryd.func105, Tryd.ntmps105
 go_wp2_with (first
  | (go_at_call 107; refine (Tryd.internal_strconv_numDigits u hu1 hu64 _ (Lib.tabIs_alloc htab _)).mono ?_; rintro e w' ⟨rfl, rfl⟩))
 go_at_call 108
 refine hfmt.mono ?_; rintro e w' ⟨rfl, k, v', dk, rfl, hF⟩; have hcells : ∀ j u', (Lib.byteCells (Lib.decDigits u))[j]? = some u' → ((putRow (fun (b : UInt8) => Value.int .u8 (b.toNat : Int)) (w.alloc (.cells Lib.zeros24 127)) w.heap.size 0 dk).drewN k).cell? ((⟨w.heap.size, 0, none⟩ : Addr).add j) = some u' := by
  intro j u' hj; have hjl : j < (Lib.decDigits u).length := by
   have h5 := (List.getElem?_eq_some_iff.1 hj).1
   rwa [Lib.byteCells_length] at h5
  have e5 : (Lib.byteCells (Lib.decDigits u))[j]? = some (Value.int .u8 ((Lib.decDigits u)[j].toNat : Int)) := by simp [Lib.byteCells, hjl]
  rw [e5] at hj; cases hj; rw [Lib.row_is_numeral hF j hjl, Lib.add_plain, World.cell?_drewN]; exact cell?_putRow (fun (b : UInt8) => Value.int .u8 (b.toNat : Int)) _ w.heap.size 0 _ dk HH0.out (by rw [hF.size, Array.size_replicate]) j (by rw [hF.size]; rw [Lib.decDigits_length] at hjl; exact hjl)
 obtain ⟨os, eo⟩ := Lib.fin_at w (.cells Lib.zeros24 127) dk k 0; have hnx2 : Below w.heap.size w ((putRow (fun (b : UInt8) => Value.int .u8 (b.toNat : Int)) (w.alloc (.cells Lib.zeros24 127)) w.heap.size 0 dk).drewN k) := by rw [eo]; exact Lib.below_grow w.heap.size w (Nat.le_refl _) k os
 have hsz2 := hnx2.size; generalize (putRow (fun (b : UInt8) => Value.int .u8 (b.toNat : Int)) (w.alloc (.cells Lib.zeros24 127)) w.heap.size 0 dk).drewN k = W2 at hcells hnx2 hsz2 ⊢; clear eo HH0 hfmt; have hk2 : KS .u8 W2 A l := HK.out.then_ hnx2; have hdl : (Lib.decDigits u).length = Lib.nDigits u := Lib.decDigits_length u; have HD := hide hdl; have HC := hide hcells; have HN := hide hnx2; have HK2 := hide hk2; clear hcells hnx2 hk2 hdl HK
 go_wp2_with (at_builtin; refine wpList_append_src_grows _ rfl _ _ 102 102 rfl 5 i0 _ 1 1 Tryd.underlying102 hi hz0 hz1 hz2 rfl A n n rfl (l.map (Value.int .u8)) (by simp [hl]) HK2.out (.slice (some ⟨w.heap.size, 0, none⟩) (Lib.nDigits u) 24) _ _ rfl (srcBytes HD.out HC.out) (by have := HD.out; have := HP.out; omega) ?_ ?_ ?_)
 ·simp only [maxLen]; omega
 ·omega
 intro v2 w3 hown' hgrow
 go_wp2
 go_ret
 refine ⟨v2, rfl, ?_, HN.out.trans ((Below.of_grown hgrow).mono HN.out.size)⟩; have hown2 : OwnK .u8 5 w3 W2.heap.size v2 (l ++ decL u) := OwnK.app hown' (by have := HD.out; simp only [List.length_append, decL, List.length_map]; omega) (by rw [byteCells_dec]); refine ⟨hown2.1, ?_⟩; rcases hown2.2 with h1 | ⟨g, cap, cur, h1, h2, h3⟩
 ·exact .inl h1
 ·exact .inr ⟨g, cap, cur, h1, by omega, h3⟩
theorem au (u : Nat) (hu64 : u < 18446744073709551616) (A : Option Addr) (n : Nat) (l : List Int) (w : World) (hl : l.length = n) (hn : n ≤ 100000) (h : KS .u8 w A l)
  (htab : Lib.TabIs Tryd.prog w "internal/strconv.uint64pow10" .u64 Lib.pow10Tab) :
  Calls Tryd.prog 105 #[.slice A n n, .int .u64 u, .int .i64 10] w fun e w' => ∃ v, e = .returned v ∧ OwnK .u8 5 w' w.heap.size v (l ++ decL u) ∧ Below w.heap.size w w' := by
 rcases Nat.lt_or_ge u 100 with hu | hu
 ·exact auS u hu A n l w hl hn h
 ·exact auB u hu hu64 A n l w hl hn h htab
theorem numL_pos {z : Int} (h : 0 ≤ z) : numL z = decL z.toNat := by unfold numL decL Lib.itoa; rw [if_neg (by omega)]
theorem numL_neg {z : Int} (h : z < 0) : numL z = [45] ++ decL z.natAbs := by unfold numL decL Lib.itoa; rw [if_pos h]; rfl
set_option maxRecDepth 100000 in
set_option maxHeartbeats 4000000 in
theorem aiF (z : Int) (h0 : -9223372036854775808 ≤ z) (h1 : z ≤ 9223372036854775807) (A : Option Addr) (n : Nat) (l : List Int) (w : World) (hl : l.length = n) (hn : n ≤ 100000) (h : KS .u8 w A l) (htab : Lib.TabBelow Tryd.prog w.heap.size w "internal/strconv.uint64pow10" .u64 Lib.pow10Tab) :
  Calls Tryd.prog 104 #[.slice A n n, .int .i64 z, .int .i64 10] w fun e w' => ∃ v, e = .returned v ∧ OwnK .u8 5 w' w.heap.size v (l ++ numL z) ∧ Below w.heap.size w w' := by
 obtain ⟨i0, hi, hz0, hz1, hz2⟩ := info_parts infoB; rcases Int.lt_or_le z 0 with hs | hs
 ·have q1 : decide (z < 0) = true := decide_eq_true hs; have hw1 : IntKind.u64.wrap (-IntKind.u64.wrap z) = ((z.natAbs : Nat) : Int) := by simp only [IntKind.wrap_u64]; omega
  have hw2 : IntKind.u64.wrap (0 - IntKind.u64.wrap z) = ((z.natAbs : Nat) : Int) := by simp only [IntKind.wrap_u64]; omega
  have HN := hide (numL_neg hs); have HT := hide htab; have hu : z.natAbs < 18446744073709551616 := by omega
  have hd := dec_len hu; have HD := hide hd; clear hs htab hd
  go_enter Tryd.func104, Tryd.ntmps104
  go_wp2_with (first
   | (at_builtin; refine wpList_append_src_grows _ rfl _ _ 102 102 rfl 5 i0 _ 1 1 Tryd.underlying102 hi hz0 hz1 hz2 rfl A n n rfl (l.map (Value.int .u8)) (by simp [hl]) (KS.alloc h _) (.slice (some ⟨w.heap.size, 0, none⟩) 1 1) 1 [.int .u8 45] rfl (Src.ofSlice _ Tryd.underlying102 ⟨w.heap.size, 0, none⟩ 1 1 _ rfl (fun j u hj => by match j, hj with | 0, hj => simp at hj; subst hj; exact (Blk.new w 5 #[.int .u8 45]).cell 0) (by simp [Value.oneCell'])) (by omega) ?_ ?_ ?_))
  ·simp only [maxLen]; omega
  ·omega
  intro v' w2 hown hgrow; have hsz : w.heap.size + 1 ≤ w2.heap.size := by have := hgrow.size; simpa using this
  have hb2 : Below w.heap.size w w2 := ((Below.refl w.heap.size w).alloc (Nat.le_refl _) _).trans ((Below.of_grown hgrow).mono (by simp)); have hown' : w2.ownsRow w.heap.size 5 1 v' (l ++ [45]).length ((l ++ [45]).map (Value.int .u8)) := by
   have h2 : OwnK .u8 5 w2 (w.heap.size + 1) v' (l ++ [45]) := OwnK.app (by simpa using hown) (by simp [hl]) rfl; refine ⟨h2.1, ?_⟩; rcases h2.2 with h3 | ⟨g, cap, cur, h3, h4, h5⟩
   ·exact .inl h3
   ·exact .inr ⟨g, cap, cur, h3, by omega, h5⟩
  have HO := hide hown'; have HB := hide hb2; clear hown hgrow hown' hb2
  go_wp2_with (go_at_call 105; refine (Tryd.internal_strconv_AppendUint_10 w.heap.size _ z.natAbs hu v' _ _ HO.out (by omega) (by simp only [List.length_append, List.length_cons, List.length_nil]; omega) (HT.out.on HB.out).here).mono ?_; rintro e w3 ⟨v3, rfl, ho3, hb3, _⟩; have HO3 := hide ho3; have HB3 := hide (HB.out.trans hb3); clear ho3 hb3)
  go_ret
  refine ⟨v3, rfl, ?_, HB3.out⟩; rw [HN.out, ← List.append_assoc]; exact OwnK.app HO3.out (by have := HD.out; simp only [List.length_append, decL, List.length_map]) (by rw [byteCells_dec])
 ·have q1 : decide (z < 0) = false := decide_eq_false (by omega); obtain ⟨u, rfl⟩ : ∃ u : Nat, z = u := ⟨z.toNat, by omega⟩; have hw1 : IntKind.u64.wrap (u : Int) = u := by simp only [IntKind.wrap_u64]; omega
  have HN := hide (numL_pos hs); have R := hide (au u (by omega) A n l w hl hn h htab.here); clear hs htab h
  go_enter Tryd.func104, Tryd.ntmps104
  go_wp2_with (go_at_call 105; refine R.out.mono ?_; rintro e w3 ⟨v3, rfl, ho3, hb3⟩; have HO3 := hide ho3; have HB3 := hide hb3; clear ho3 hb3)
  go_ret
  refine ⟨v3, rfl, ?_, HB3.out⟩; rw [HN.out]; exact HO3.out
theorem aiP (z : Int) (h0 : -9223372036854775808 ≤ z) (h1 : z ≤ 9223372036854775807) (A : Option Addr) (n : Nat) (l : List Int) (w : World) (hl : l.length = n) (hn : n ≤ 100000) (h : KS .u8 w A l) (htab : Lib.TabBelow Tryd.prog w.heap.size w "internal/strconv.uint64pow10" .u64 Lib.pow10Tab) :
  Calls Tryd.prog 103 #[.slice A n n, .int .i64 z, .int .i64 10] w fun e w' => ∃ v, e = .returned v ∧ OwnK .u8 5 w' w.heap.size v (l ++ numL z) ∧ Below w.heap.size w w' := by
 have R := hide (aiF z h0 h1 A n l w hl hn h htab); clear h htab
 go_enter Tryd.func103, Tryd.ntmps103
 go_wp2_with (go_at_call 104; refine R.out.mono ?_; rintro e w3 ⟨v3, rfl, ho3, hb3⟩; have HO3 := hide ho3; have HB3 := hide hb3; clear ho3 hb3)
 go_ret
 exact ⟨v3, rfl, HO3.out, HB3.out⟩
set_option maxRecDepth 100000 in
set_option maxHeartbeats 4000000 in
theorem text_f (A : Option Addr) (n : Nat) (l zs : List Int) (B : Option Addr) (d : Nat) (w0 w : World) (hT : Tb w0) (hb0 : Below w0.heap.size w0 w) (hl : l.length = n) (hn : n ≤ 10000) (h : KS .u8 w A l)
  (hz : ∀ W, Below w.heap.size w W → KS .i64 W B zs) (hi : inI zs) (hzl : zs.length ≤ 10000) (hz1 : 1 ≤ zs.length) :
  Calls Tryd.prog 97 #[.slice A n n, .slice B zs.length d] w fun e w' => ∃ v', e = .returned v' ∧ OwnK .u8 5 w' w.heap.size v' (l ++ textL zs) ∧ Below w.heap.size w w' := by
 obtain ⟨i0, hi0, hz0, hz1', hz2⟩ := info_parts infoB; have HT := hide hT; have HB0 := hide hb0; have HK := hide h; have HZ := hide hz; have HI := hide hi; have hlen := textL_len hi; have HLEN := hide hlen; have hsz0 := hb0.size; clear hT hb0 h hz hi hlen
 go_enter Tryd.func97, Tryd.ntmps97
 go_wp2
 go_loopw [0, 6, 9] (fun u0 _ i wr => ∃ k : Nat, k ≤ zs.length ∧ i = .int .i64 k ∧ ((k = 0 ∧ u0 = .slice A n n ∧ wr = w) ∨ (1 ≤ k ∧ OwnK .u8 5 wr w.heap.size u0 (l ++ textL (zs.take k)) ∧ Below w.heap.size w wr))) (fun _ _ i _ => zs.length - (intOf i).toNat)
 case atStart => exact ⟨0, Nat.zero_le _, rfl, .inl ⟨rfl, rfl, rfl⟩⟩
 case round =>
  obtain ⟨k, hk, rfl, hrel⟩ := hrel
  by_cases hlt : k < zs.length
  ·have hbw : Below w.heap.size w wr := by rcases hrel with ⟨_, _, rfl⟩ | ⟨_, _, hb⟩; exact Below.refl _ _; exact hb
   obtain ⟨b, o, rfl, hbl, hc⟩ := (HZ.out wr hbw).at_ (i := k) hlt; have c0 := hc k hlt; have hr := HI.out zs[k] (List.getElem_mem hlt); have HC := hide hc; have hll := textL_len (l := zs.take k) (fun z hz => HI.out z (List.mem_of_mem_take hz)); have hll2 : (textL (zs.take k)).length ≤ 22 * zs.length := Nat.le_trans hll (Nat.mul_le_mul_left _ (by rw [List.length_take]; omega)); have hnl := numL_len hr.1 hr.2; have HB := hide hbw; have hsz := hbw.size; have HT2 := hide (HT.out.low ((HB0.out.trans (HB.out.mono hsz0))) hsz0); obtain ⟨z, hzk⟩ : ∃ z, z = zs[k] := ⟨_, rfl⟩; rw [← hzk] at c0 hr hnl; have HSN := hide (show l ++ textL (zs.take (k + 1)) = l ++ textL (zs.take k) ++ numL z ++ [32] by rw [textL_take hlt, ← hzk]; simp only [List.append_assoc]); have hr1 := hr.1; have hr2 := hr.2; have AI : Hid (Calls Tryd.prog 103 #[u0, .int .i64 z, .int .i64 10] wr fun e w' => ∃ v, e = .returned v ∧ OwnK .u8 5 w' w.heap.size v (l ++ textL (zs.take k) ++ numL z) ∧ Below w.heap.size wr w') := by
    rcases hrel with ⟨rfl, rfl, rfl⟩ | ⟨_, ho, _⟩
    ·have := aiP z hr1 hr2 A n l wr hl (by omega) HK.out HT2.out; exact hide (by simpa [textL] using this)
    ·refine hide ((Tryd.strconv_AppendInt_10 w.heap.size _ z hr1 hr2 u0 _ _ ho (by omega) (by simp only [List.length_append]; omega) HT2.out).mono ?_); rintro e w2 ⟨v2, rfl, ho2, hb2, _⟩; refine ⟨v2, rfl, OwnK.app ho2 ?_ ?_, hb2⟩
     ·simp only [List.length_append, numL, List.length_map]
     ·rw [byteCells_num]
   clear hc hzk hll hrel hr hbw
   go_wp2_with (first
    | (go_at_call 103; refine AI.out.mono ?_; rintro e w2 ⟨v2, rfl, ho2, hb2⟩; have HO2 := hide ho2; have HB2 := hide (HB.out.trans hb2); have hs2 := hb2.size; clear ho2 hb2)
    | (at_builtin; refine wpList_append_rd _ rfl _ _ 102 rfl w.heap.size 5 i0 _ 1 1 Tryd.underlying102 hi0 hz0 hz1' hz2 rfl (by decide) _ _ _ rfl (own_keep HO2.out (fun g hg => Below.heap_alloc _ _ g (own_lt HO2.out hg).2)) (some ⟨w2.heap.size, 0, none⟩) 1 1 [.int .u8 32] rfl rfl (Rd.new_row _ _ _) (by simp [Value.oneCell']) ?_ ?_ ?_ ?_))
   ·simp only [maxLen, List.length_append]; omega
   ·simp only [List.length_append]; omega
   ·simp; omega
   intro v' w6 hown' hgrow _; have b6 : Below w.heap.size w w6 := (HB2.out.alloc (by omega) _).grown hgrow (by simp; omega) (fun g hg => (own_lt HO2.out hg).1); have hown2 : OwnK .u8 5 w6 w.heap.size v' (l ++ textL (zs.take (k + 1))) := by
    rw [HSN.out]; exact OwnK.app (l' := [32]) hown' (by simp only [List.length_append, List.length_cons, List.length_nil]; omega) (by simp)
   have HO6 := hide hown2; have HB6 := hide b6; clear hown' hgrow hown2 b6
   go_wp2
   go_roundw
   case rel => exact ⟨k + 1, by omega, by go_num, .inr ⟨by omega, HO6.out, HB6.out⟩⟩
   case measure => simp [intOf]; omega
  ·obtain rfl : k = zs.length := by omega
   obtain ⟨ho, hb⟩ : OwnK .u8 5 wr w.heap.size u0 (l ++ textL zs) ∧ Below w.heap.size w wr := by
    rcases hrel with ⟨h0, _⟩ | ⟨_, ho, hb⟩
    ·omega
    ·rw [List.take_length] at ho; exact ⟨ho, hb⟩
   have HO6 := hide ho; have HB := hide hb; clear hrel ho hb
   go_wp2
   go_ret
   exact ⟨u0, rfl, HO6.out, HB.out⟩
end Go.Proofs.YtmfjcachghboiaaDoor
namespace Go.Proofs.YtmfjcachghboiaaDoor
open Go.RowKit
theorem blk_row {w w' : World} {g r : Nat} {t : TypeId} {cs : Array Value} (h : Blk w g t cs) (hg : w.grownBy w' (some r)) (hne : g ≠ r) : Blk w' g t cs := (hg.block g h.lt (fun e => hne (by injection e))).trans h
abbrev pairC0 : Array Value := #[.int .u8 1, .int .u8 0, .int .u8 0, .int .u8 0, .int .u8 0, .int .u8 0, .int .u8 0, .int .u8 0, .int .u8 0, .int .u8 0, .int .u8 0, .int .u8 0, .int .u8 0, .int .u8 0, .int .u8 0, .int .u8 0, .int .u8 0]
abbrev octA (n : Int) : Array Value := #[.int .u8 (oct n 0), .int .u8 (oct n 1), .int .u8 (oct n 2), .int .u8 (oct n 3), .int .u8 (oct n 4), .int .u8 (oct n 5), .int .u8 (oct n 6), .int .u8 (oct n 7)]
theorem octets_lit (n : Int) (w : World) : Calls Tryd.prog 94 #[.int .u64 n] w fun e w' => e = .returned (.agg (octA n)) ∧ Below w.heap.size w w' := octets_any n w
set_option maxHeartbeats 2000000 in
theorem pair_any (a b : Int) (w : World) : Calls Tryd.prog 71 #[.int .u64 a, .int .u64 b] w fun e w' => e = .returned (.int .u64 (pairF a b)) ∧ Below w.heap.size w w' := by
 have B1 := hide ((Below.refl w.heap.size w).alloc (Nat.le_refl _) (.cells pairC0 116)); have Q5 := hide (Blk.new w 116 pairC0); have HS := hide fun A c l W hn s => sum_any A c l W hn s
 obtain ⟨i0, hi, hz0, hz1, hz2⟩ := info_parts infoB; have hsz : (Tryd.prog.info? 5).map (·.size) = some 1 := by rw [hi]; simp [hz1]
 go_enter Tryd.func71, Tryd.ntmps71
 go_upto_region 3 with (first
  | (go_at_call 94; with_reducible refine (octets_lit a _).mono ?_; rintro e w2 ⟨rfl, hb2⟩; have B2 := hide (B1.out.trans (hb2.mono B1.out.size)); have Q5 := hide (Q5.out.below hb2 Q5.out.lt); clear hb2 B1)
  | (go_at_call 94; with_reducible refine (octets_lit b _).mono ?_; rintro e w3 ⟨rfl, hb3⟩; have B3 := hide (B2.out.trans (hb3.mono B2.out.size)); have Q5 := hide (Q5.out.below hb3 Q5.out.lt); clear hb3 B2))
 have hlt := Q5.out.lt; have P5 := hide ((Q5.out.alloc (.cells (octA a) 117)).alloc (.cells (octA b) 117)); have P6 := hide ((Blk.new w3 117 (octA a)).alloc (.cells (octA b) 117)); have P7 := hide (Blk.new (w3.alloc (.cells (octA a) 117)) 117 (octA b)); rw [World.size_alloc] at P7; have hs3 := B3.out.size; have BW := hide ((B3.out.alloc hs3 (.cells (octA a) 117)).alloc (by simp; omega) (.cells (octA b) 117)); obtain ⟨W, hW⟩ : ∃ W, (w3.alloc (.cells (octA a) 117)).alloc (.cells (octA b) 117) = W := ⟨_, rfl⟩; rw [hW] at P5 P6 P7 BW ⊢; clear hW; have hone : ∀ (n : Int), ∀ v ∈ (octA n).toList, v.oneCell' = true := fun n v hv => by simp at hv; rcases hv with rfl | rfl | rfl | rfl | rfl | rfl | rfl | rfl <;> rfl
 have HN := hide hone; clear hone
 go_region_law ((refine step_copyN rfl _ _ 102 102 rfl 5 1 Tryd.underlying102 hsz (some ⟨w.heap.size, 1, none⟩) (some ⟨w3.heap.size, 0, none⟩) 16 16 8 8 (by rfl) (by rfl) w.heap.size 1 pairC0 116 P5.out.drew (octA a).toList rfl (fun _ => rfl) (Rd.of_blk P6.out.drew) (by simp) (HN.out a) ?_; intro w4 hb4 hg4 hs4))
 have P7 := hide (blk_row P7.out.drew hg4 (by omega)); have P5 := hide hb4; have BW := hide (BW.out.drew.grown hg4 (by have := BW.out.size; exact this) (fun k e => by injection e with e; omega)); clear hb4 hg4
 go_upto_region 4 with fail
 go_region_law ((refine step_copyN rfl _ _ 102 102 rfl 5 1 Tryd.underlying102 hsz (some ⟨w.heap.size, 9, none⟩) (some ⟨w3.heap.size + 1, 0, none⟩) 8 8 8 8 (by rfl) (by rfl) w.heap.size 9 _ 116 P5.out.drew (octA b).toList rfl (fun _ => rfl) (Rd.of_blk P7.out.drew) (by simp [splice]) (HN.out b) ?_; intro w5 hb5 hg5 hs5))
 have K5 := hide (show KS .u8 w5 (some ⟨w.heap.size, 0, none⟩) ([1] ++ octL a ++ octL b) from Rd.of_blk hb5); have BW := hide (BW.out.drew.grown hg5 (by have := BW.out.size; exact this) (fun k e => by injection e with e; omega)); clear hb5 hg5
 go_wp2_with (go_at_call 95; refine (HS.out (some ⟨w.heap.size, 0, none⟩) 17 ([1] ++ octL a ++ octL b) _ (by simp [octL]) K5.out).mono ?_; rintro e w6 ⟨rfl, rfl⟩)
 go_ret
 exact ⟨rfl, BW.out⟩
end Go.Proofs.YtmfjcachghboiaaDoor
namespace Go.Proofs.YtmfjcachghboiaaDoor
open Go.RowKit
set_option maxHeartbeats 1000000 in
theorem rSum_any (A : Option Addr) (c : Nat) (l : List Int) (w : World) (hn : l.length ≤ 9223372036854775807) (h : KS .u8 w A l) :
  Calls Tryd.prog 74 #[.slice A l.length c] w fun e w' => e = .returned (.int .u64 (sumB l)) ∧ w = w' := by
 go_enter Tryd.func74, Tryd.ntmps74
 go_wp2
 go_loopw [3, 4] (fun s i wr => ∃ k : Nat, k ≤ l.length ∧ i = .int .i64 k ∧ s = .int .u64 ((l.take k).foldl sumF 14695981039346656037) ∧ w = wr) (fun _ i _ => l.length - (intOf i).toNat)
 case atStart => exact ⟨0, Nat.zero_le _, rfl, rfl, rfl⟩
 case round =>
  obtain ⟨k, hk, rfl, rfl, rfl⟩ := hrel
  by_cases hlt : k < l.length
  ·obtain ⟨b, o, rfl, hbl, hc⟩ := h.at_ hlt; have c0 := hc k hlt; clear hc; have hs := foldl_take1 sumF 14695981039346656037 l k hlt; have HS := hide hs; clear hs
   go_wp2
   go_roundw
   case rel => exact ⟨k + 1, by omega, by go_num, by rw [HS.out]; rfl, by trivial⟩
   case measure => simp [intOf]; omega
  ·have hr : l.take k = l := List.take_of_length_le (by omega); rw [hr]; clear hr
   go_wp2
   go_ret
   exact ⟨rfl, rfl⟩
set_option maxHeartbeats 4000000 in
theorem eight_any (n : Int) (w : World) : Calls Tryd.prog 72 #[.int .u64 n] w fun e w' => ∃ v, e = .returned v ∧ OwnK .u8 5 w' w.heap.size v (octL n) ∧ Below w.heap.size w w' := by
 obtain ⟨i0, hi, hz0, hz1, hz2⟩ := info_parts infoB
 go_enter Tryd.func72, Tryd.ntmps72
 go_wp2
 go_loopw [3, 4] (fun b i wr => ∃ k : Nat, k ≤ 8 ∧ i = .int .i64 (56 - 8 * (k : Int)) ∧ OwnK .u8 5 wr w.heap.size b ((octL n).take k) ∧ Below w.heap.size w wr) (fun _ i _ => (intOf i + 8).toNat)
 case atStart => exact ⟨0, by omega, rfl, OwnK.nil, Below.refl _ _⟩
 case round =>
  obtain ⟨k, hk, rfl, ho, hb⟩ := hrel; have HO := hide ho; have HL := hide hb; have hs := hb.size; clear ho hb; rcases (show k = 0 ∨ k = 1 ∨ k = 2 ∨ k = 3 ∨ k = 4 ∨ k = 5 ∨ k = 6 ∨ k = 7 ∨ k = 8 by omega) with rfl | rfl | rfl | rfl | rfl | rfl | rfl | rfl | rfl
  ·go_wp2_with (at_builtin; refine wpList_append_rd _ rfl _ _ 102 rfl w.heap.size 5 i0 _ 1 1 Tryd.underlying102 hi hz0 hz1 hz2 rfl (by decide) _ _ _ rfl (OwnK.below HO.out ((Below.refl _ _).alloc (Nat.le_refl _) _)) (some ⟨wr.heap.size, 0, none⟩) 1 1 [.int .u8 (oct n 0)] rfl rfl (Rd.new_row _ _ _) (by simp [Value.oneCell']) (by simp [octL, maxLen]) (by simp [octL]) (by simp; omega) ?_; intro v' w6 hown' hgrow _)
   have b6 : Below w.heap.size w w6 := (HL.out.alloc hs _).grown hgrow (by simp; omega) (fun g hg => (HO.out.lt g hg).1)
   go_wp2
   go_roundw
   case rel => exact ⟨1, by omega, rfl, by simpa [OwnK, octL] using hown', b6⟩
   case measure => simp [intOf]
  ·go_wp2_with (at_builtin; refine wpList_append_rd _ rfl _ _ 102 rfl w.heap.size 5 i0 _ 1 1 Tryd.underlying102 hi hz0 hz1 hz2 rfl (by decide) _ _ _ rfl (OwnK.below HO.out ((Below.refl _ _).alloc (Nat.le_refl _) _)) (some ⟨wr.heap.size, 0, none⟩) 1 1 [.int .u8 (oct n 1)] rfl rfl (Rd.new_row _ _ _) (by simp [Value.oneCell']) (by simp [octL, maxLen]) (by simp [octL]) (by simp; omega) ?_; intro v' w6 hown' hgrow _)
   have b6 : Below w.heap.size w w6 := (HL.out.alloc hs _).grown hgrow (by simp; omega) (fun g hg => (HO.out.lt g hg).1)
   go_wp2
   go_roundw
   case rel => exact ⟨2, by omega, rfl, by simpa [OwnK, octL] using hown', b6⟩
   case measure => simp [intOf]
  ·go_wp2_with (at_builtin; refine wpList_append_rd _ rfl _ _ 102 rfl w.heap.size 5 i0 _ 1 1 Tryd.underlying102 hi hz0 hz1 hz2 rfl (by decide) _ _ _ rfl (OwnK.below HO.out ((Below.refl _ _).alloc (Nat.le_refl _) _)) (some ⟨wr.heap.size, 0, none⟩) 1 1 [.int .u8 (oct n 2)] rfl rfl (Rd.new_row _ _ _) (by simp [Value.oneCell']) (by simp [octL, maxLen]) (by simp [octL]) (by simp; omega) ?_; intro v' w6 hown' hgrow _)
   have b6 : Below w.heap.size w w6 := (HL.out.alloc hs _).grown hgrow (by simp; omega) (fun g hg => (HO.out.lt g hg).1)
   go_wp2
   go_roundw
   case rel => exact ⟨3, by omega, rfl, by simpa [OwnK, octL] using hown', b6⟩
   case measure => simp [intOf]
  ·go_wp2_with (at_builtin; refine wpList_append_rd _ rfl _ _ 102 rfl w.heap.size 5 i0 _ 1 1 Tryd.underlying102 hi hz0 hz1 hz2 rfl (by decide) _ _ _ rfl (OwnK.below HO.out ((Below.refl _ _).alloc (Nat.le_refl _) _)) (some ⟨wr.heap.size, 0, none⟩) 1 1 [.int .u8 (oct n 3)] rfl rfl (Rd.new_row _ _ _) (by simp [Value.oneCell']) (by simp [octL, maxLen]) (by simp [octL]) (by simp; omega) ?_; intro v' w6 hown' hgrow _)
   have b6 : Below w.heap.size w w6 := (HL.out.alloc hs _).grown hgrow (by simp; omega) (fun g hg => (HO.out.lt g hg).1)
   go_wp2
   go_roundw
   case rel => exact ⟨4, by omega, rfl, by simpa [OwnK, octL] using hown', b6⟩
   case measure => simp [intOf]
  ·go_wp2_with (at_builtin; refine wpList_append_rd _ rfl _ _ 102 rfl w.heap.size 5 i0 _ 1 1 Tryd.underlying102 hi hz0 hz1 hz2 rfl (by decide) _ _ _ rfl (OwnK.below HO.out ((Below.refl _ _).alloc (Nat.le_refl _) _)) (some ⟨wr.heap.size, 0, none⟩) 1 1 [.int .u8 (oct n 4)] rfl rfl (Rd.new_row _ _ _) (by simp [Value.oneCell']) (by simp [octL, maxLen]) (by simp [octL]) (by simp; omega) ?_; intro v' w6 hown' hgrow _)
   have b6 : Below w.heap.size w w6 := (HL.out.alloc hs _).grown hgrow (by simp; omega) (fun g hg => (HO.out.lt g hg).1)
   go_wp2
   go_roundw
   case rel => exact ⟨5, by omega, rfl, by simpa [OwnK, octL] using hown', b6⟩
   case measure => simp [intOf]
  ·go_wp2_with (at_builtin; refine wpList_append_rd _ rfl _ _ 102 rfl w.heap.size 5 i0 _ 1 1 Tryd.underlying102 hi hz0 hz1 hz2 rfl (by decide) _ _ _ rfl (OwnK.below HO.out ((Below.refl _ _).alloc (Nat.le_refl _) _)) (some ⟨wr.heap.size, 0, none⟩) 1 1 [.int .u8 (oct n 5)] rfl rfl (Rd.new_row _ _ _) (by simp [Value.oneCell']) (by simp [octL, maxLen]) (by simp [octL]) (by simp; omega) ?_; intro v' w6 hown' hgrow _)
   have b6 : Below w.heap.size w w6 := (HL.out.alloc hs _).grown hgrow (by simp; omega) (fun g hg => (HO.out.lt g hg).1)
   go_wp2
   go_roundw
   case rel => exact ⟨6, by omega, rfl, by simpa [OwnK, octL] using hown', b6⟩
   case measure => simp [intOf]
  ·go_wp2_with (at_builtin; refine wpList_append_rd _ rfl _ _ 102 rfl w.heap.size 5 i0 _ 1 1 Tryd.underlying102 hi hz0 hz1 hz2 rfl (by decide) _ _ _ rfl (OwnK.below HO.out ((Below.refl _ _).alloc (Nat.le_refl _) _)) (some ⟨wr.heap.size, 0, none⟩) 1 1 [.int .u8 (oct n 6)] rfl rfl (Rd.new_row _ _ _) (by simp [Value.oneCell']) (by simp [octL, maxLen]) (by simp [octL]) (by simp; omega) ?_; intro v' w6 hown' hgrow _)
   have b6 : Below w.heap.size w w6 := (HL.out.alloc hs _).grown hgrow (by simp; omega) (fun g hg => (HO.out.lt g hg).1)
   go_wp2
   go_roundw
   case rel => exact ⟨7, by omega, rfl, by simpa [OwnK, octL] using hown', b6⟩
   case measure => simp [intOf]
  ·go_wp2_with (at_builtin; refine wpList_append_rd _ rfl _ _ 102 rfl w.heap.size 5 i0 _ 1 1 Tryd.underlying102 hi hz0 hz1 hz2 rfl (by decide) _ _ _ rfl (OwnK.below HO.out ((Below.refl _ _).alloc (Nat.le_refl _) _)) (some ⟨wr.heap.size, 0, none⟩) 1 1 [.int .u8 (n % 256)] rfl rfl (Rd.new_row _ _ _) (by simp [Value.oneCell']) (by simp [octL, maxLen]) (by simp [octL]) (by simp; omega) ?_; intro v' w6 hown' hgrow _)
   have b6 : Below w.heap.size w w6 := (HL.out.alloc hs _).grown hgrow (by simp; omega) (fun g hg => (HO.out.lt g hg).1)
   go_wp2
   go_roundw
   case rel => exact ⟨8, by omega, rfl, by simpa [OwnK, octL, show oct n 7 = n % 256 by unfold oct; simp] using hown', b6⟩
   case measure => simp [intOf]
  ·go_wp2
   go_ret
   exact ⟨_, rfl, by simpa [octL] using HO.out, HL.out⟩
end Go.Proofs.YtmfjcachghboiaaDoor
namespace Go.Proofs.YtmfjcachghboiaaDoor
def upT (a b : Nat) : Nat × Nat := if _h : a % 2 = 0 ∧ a ≠ 0 then upT (a / 2) (b / 2) else (a / 2, b / 2)
termination_by a
decreasing_by omega
def stripT (a b : Nat) : Nat × Nat := if _h : a % 2 = 1 then stripT (a / 2) (b / 2) else (a, b)
termination_by a
decreasing_by omega
def isR (a b : Nat) : Bool := decide (a % 2 = 1) || decide (a = b)
def wlk {S : Type} (fr fl : S → Int → S) : Nat → Nat → S → List Int → Option S
 | _, b, s, [] => if b = 0 then some s else none
 | a, b, s, p :: ps => if b = 0 then none else if isR a b = true then wlk fr fl (upT a b).1 (upT a b).2 (fr s p) ps else wlk fr fl (a / 2) (b / 2) (fl s p) ps
theorem upT_odd {a b : Nat} (h : a % 2 = 1) : upT a b = (a / 2, b / 2) := by rw [upT, dif_neg (by omega)]
theorem upT_even {a b : Nat} (h : a % 2 = 0) (h0 : a ≠ 0) : upT a b = upT (a / 2) (b / 2) := by rw [upT, dif_pos ⟨h, h0⟩]
theorem two_pow_half (e : Nat) (x : Nat) : (2 ^ (e + 1) + x) / 2 = 2 ^ e + x / 2 := by rw [Nat.pow_succ]; omega
theorem two_pow_par (e : Nat) (x : Nat) : (2 ^ (e + 1) + x) % 2 = x % 2 := by rw [Nat.pow_succ]; omega
theorem upT_top : ∀ e, upT (2 ^ e) (2 ^ e) = (0, 0)
 | 0 => by rw [Nat.pow_zero, upT_odd rfl]
 | e + 1 => by
  have h1 := two_pow_half e 0; have h2 := two_pow_par e 0; have h3 : 0 < 2 ^ (e + 1) := Nat.two_pow_pos _; simp only [Nat.add_zero, Nat.zero_div, Nat.zero_mod] at h1 h2; rw [upT_even h2 (by omega), h1]; exact upT_top e
theorem upT_lift : ∀ e a b, a ≤ b → b < 2 ^ e → 0 < b → (a % 2 = 1 ∨ a = b) →
  ∃ e', upT (2 ^ e + a) (2 ^ e + b) = (2 ^ e' + (upT a b).1, 2 ^ e' + (upT a b).2) ∧ (upT a b).1 ≤ (upT a b).2 ∧ (upT a b).2 < 2 ^ e'
 | 0, a, b, _, h2, h3, _ => by rw [Nat.pow_zero] at h2; omega
 | e + 1, a, b, h1, h2, h3, h4 => by
  have p1 := two_pow_half e a; have p2 := two_pow_half e b; have p3 := two_pow_par e a; have p4 : 2 ^ (e + 1) = 2 * 2 ^ e := by rw [Nat.pow_succ]; omega
  have p5 : 0 < 2 ^ e := Nat.two_pow_pos _
  by_cases ho : a % 2 = 1
  ·rw [upT_odd (by omega), upT_odd ho, p1, p2]; exact ⟨e, rfl, Nat.div_le_div_right h1, by omega⟩
  ·have hab : a = b := h4.resolve_left ho; rw [upT_even (a := 2 ^ (e + 1) + a) (by omega) (by omega), upT_even (a := a) (by omega) (by omega), p1, p2]; exact upT_lift e (a / 2) (b / 2) (by omega) (by omega) (by omega) (.inr (by omega))
theorem isR_lift {e a b : Nat} : isR (2 ^ (e + 1) + a) (2 ^ (e + 1) + b) = isR a b := by
 unfold isR; rw [two_pow_par]
 congr 1
 rw [Bool.eq_iff_iff, decide_eq_true_eq, decide_eq_true_eq]; omega
theorem isR_iff {a b : Nat} : isR a b = true ↔ a % 2 = 1 ∨ a = b := by unfold isR; simp
section
variable {S : Type} {fr fl : S → Int → S}
theorem wlk_nil {a b : Nat} {s : S} (h : b ≠ 0) : wlk fr fl a b s [] = none := by rw [wlk, if_neg h]
theorem wlk_nil0 {a : Nat} {s : S} : wlk fr fl a 0 s [] = some s := by rw [wlk, if_pos rfl]
theorem wlk_cons {a b : Nat} {s : S} {p : Int} {ps : List Int} : wlk fr fl a b s (p :: ps) = if b = 0 then none else if isR a b = true then wlk fr fl (upT a b).1 (upT a b).2 (fr s p) ps else wlk fr fl (a / 2) (b / 2) (fl s p) ps := by rw [wlk]
theorem wlk_end {a : Nat} {s : S} {p : Int} {ps : List Int} : wlk fr fl a 0 s (p :: ps) = none := by rw [wlk, if_pos rfl]
theorem wlk_end2 {a : Nat} {s : S} {ps : List Int} (h : ps ≠ []) : wlk fr fl a 0 s ps = none := by
 cases ps with
 | nil => exact absurd rfl h
 | cons p ps => exact wlk_end
theorem wlk_01 {s : S} {p : Int} : wlk fr fl 0 1 s [p] = some (fl s p) := by rw [wlk_cons, if_neg (by omega), if_neg (by simp [isR]), show 1 / 2 = 0 from rfl, wlk_nil0]
theorem wlk_01_more {s : S} {p : Int} {ps : List Int} (h : ps ≠ []) : wlk fr fl 0 1 s (p :: ps) = none := by rw [wlk_cons, if_neg (by omega), if_neg (by simp [isR]), show 1 / 2 = 0 from rfl, wlk_end2 h]
theorem wlk_right (p : Int) : ∀ (ps : List Int) (e a b : Nat) (s : S), a ≤ b → b < 2 ^ e → wlk fr fl (2 ^ e + a) (2 ^ e + b) s (ps ++ [p]) = (wlk fr fl a b s ps).map (fun s => fr s p)
 | ps, 0, a, b, s, h1, h2 => by
  rw [Nat.pow_zero] at h2; obtain rfl : b = 0 := by omega
  obtain rfl : a = 0 := by omega
  cases ps with
  | nil =>
   rw [List.nil_append, wlk_cons, if_neg (by simp), if_pos (isR_iff.2 (.inr rfl)), upT_top 0, wlk_nil0, wlk_nil0]; rfl
  | cons q qs =>
   rw [List.cons_append, wlk_cons, if_neg (by simp), if_pos (isR_iff.2 (.inr rfl)), upT_top 0, wlk_end, wlk_end2 (by simp)]; rfl
 | ps, e + 1, a, b, s, h1, h2 => by
  have p1 := two_pow_half e a; have p2 := two_pow_half e b; have p4 : 2 ^ (e + 1) = 2 * 2 ^ e := by rw [Nat.pow_succ]; omega
  have p5 : 0 < 2 ^ e := Nat.two_pow_pos _
  by_cases hb : b = 0
  ·subst hb; obtain rfl : a = 0 := by omega
   rw [Nat.add_zero]; cases ps with
   | nil =>
    rw [List.nil_append, wlk_cons, if_neg (by omega), if_pos (isR_iff.2 (.inr rfl)), upT_top, wlk_nil0, wlk_nil0]; rfl
   | cons q qs =>
    rw [List.cons_append, wlk_cons, if_neg (by omega), if_pos (isR_iff.2 (.inr rfl)), upT_top, wlk_end, wlk_end2 (by simp)]; rfl
  ·cases ps with
   | nil =>
    rw [List.nil_append, wlk_nil hb, wlk_cons, if_neg (by omega), isR_lift]
    by_cases hr : isR a b = true
    ·rw [if_pos hr]; obtain ⟨e', he, _, _⟩ := upT_lift (e + 1) a b h1 h2 (by omega) (isR_iff.1 hr); have : 0 < 2 ^ e' := Nat.two_pow_pos _; rw [he, wlk_nil (by dsimp only; omega)]; rfl
    ·rw [if_neg hr, p2, wlk_nil (by omega)]; rfl
   | cons q qs =>
    rw [List.cons_append, wlk_cons, if_neg (by omega), isR_lift, wlk_cons, if_neg hb]
    by_cases hr : isR a b = true
    ·rw [if_pos hr, if_pos hr]; obtain ⟨e', he, h3, h4⟩ := upT_lift (e + 1) a b h1 h2 (by omega) (isR_iff.1 hr); rw [he]; exact wlk_right p qs e' _ _ _ h3 h4
    ·rw [if_neg hr, if_neg hr, p1, p2]; exact wlk_right p qs e _ _ _ (Nat.div_le_div_right h1) (by omega)
theorem wlk_left (p : Int) : ∀ (ps : List Int) (e a b : Nat) (s : S), a < 2 ^ e → 2 ^ e ≤ b → b < 2 ^ (e + 1) → wlk fr fl a b s (ps ++ [p]) = (wlk fr fl a (2 ^ e - 1) s ps).map (fun s => fl s p)
 | ps, 0, a, b, s, h1, h2, h3 => by
  rw [Nat.pow_zero] at h1 h2; rw [Nat.pow_succ, Nat.pow_zero] at h3; obtain rfl : a = 0 := by omega
  obtain rfl : b = 1 := by omega
  cases ps with
  | nil =>
   rw [List.nil_append, wlk_cons, if_neg (by simp), if_neg (by simp [isR]), show 2 ^ 0 - 1 = 0 from rfl, show 1 / 2 = 0 from rfl, wlk_nil0, wlk_nil0]; rfl
  | cons q qs =>
   rw [List.cons_append, wlk_cons, if_neg (by simp), if_neg (by simp [isR])]; rw [show 2 ^ 0 - 1 = 0 from rfl, wlk_end, wlk_end2 (by simp)]; rfl
 | ps, e + 1, a, b, s, h1, h2, h3 => by
  have p4 : 2 ^ (e + 1) = 2 * 2 ^ e := by rw [Nat.pow_succ]; omega
  have p6 : 2 ^ (e + 1 + 1) = 2 * (2 * 2 ^ e) := by rw [Nat.pow_succ, Nat.pow_succ]; omega
  have p5 : 0 < 2 ^ e := Nat.two_pow_pos _; have p7 : (2 ^ (e + 1) - 1) / 2 = 2 ^ e - 1 := by omega
  cases ps with
  | nil =>
   rw [List.nil_append, wlk_nil (by omega), wlk_cons, if_neg (by omega)]
   by_cases ho : a % 2 = 1
   ·rw [if_pos (isR_iff.2 (.inl ho)), upT_odd ho, wlk_nil (by dsimp only; omega)]; rfl
   ·rw [if_neg (fun h => by rcases isR_iff.1 h with h | h; exact ho h; omega), wlk_nil (by omega)]; rfl
  | cons q qs =>
   have hb0 : b ≠ 0 := by omega
   have hb1 : 2 ^ (e + 1) - 1 ≠ 0 := by omega
   rw [List.cons_append, wlk_cons (b := b), wlk_cons (b := 2 ^ (e + 1) - 1), if_neg hb0, if_neg hb1]
   by_cases ho : a % 2 = 1
   ·have hr1 : isR a b = true := isR_iff.2 (.inl ho); have hr2 : isR a (2 ^ (e + 1) - 1) = true := isR_iff.2 (.inl ho); rw [if_pos hr1, if_pos hr2, upT_odd ho, upT_odd ho]
    dsimp only
    rw [p7]; exact wlk_left p qs e _ _ _ (by omega) (by omega) (by omega)
   ·have hr1 : ¬isR a b = true := fun h => by rcases isR_iff.1 h with h | h; exact ho h; omega
    have hr2 : ¬isR a (2 ^ (e + 1) - 1) = true := fun h => by rcases isR_iff.1 h with h | h; exact ho h; omega
    rw [if_neg hr1, if_neg hr2, p7]; exact wlk_left p qs e _ _ _ (by omega) (by omega) (by omega)
end
theorem stripT_odd {a b : Nat} (h : a % 2 = 1) : stripT a b = stripT (a / 2) (b / 2) := by rw [stripT, dif_pos h]
theorem stripT_even {a b : Nat} (h : a % 2 = 0) : stripT a b = (a, b) := by rw [stripT, dif_neg (by omega)]
theorem strip_right : ∀ e a b, a < b → b < 2 ^ e → ∃ e', stripT (2 ^ e + a) (2 ^ e + b) = (2 ^ e' + (stripT a b).1, 2 ^ e' + (stripT a b).2) ∧ (stripT a b).1 ≤ (stripT a b).2 ∧ (stripT a b).2 < 2 ^ e'
 | 0, a, b, h1, h2 => by rw [Nat.pow_zero] at h2; omega
 | e + 1, a, b, h1, h2 => by
  have p1 := two_pow_half e a; have p2 := two_pow_half e b; have p3 := two_pow_par e a; have p4 : 2 ^ (e + 1) = 2 * 2 ^ e := by rw [Nat.pow_succ]; omega
  by_cases ho : a % 2 = 1
  ·rw [stripT_odd (by omega), stripT_odd ho, p1, p2]; exact strip_right e (a / 2) (b / 2) (by omega) (by omega)
  ·rw [stripT_even (by omega), stripT_even (by omega)]; exact ⟨e + 1, rfl, by dsimp only; omega, h2⟩
theorem strip_left : ∀ e a b, a + 1 < 2 ^ e → 2 ^ e ≤ b → b < 2 ^ (e + 1) →
  ∃ e' a' b', stripT a b = (a', b') ∧ stripT a (2 ^ e - 1) = (a', 2 ^ e' - 1) ∧ a' < 2 ^ e' ∧ 2 ^ e' ≤ b' ∧ b' < 2 ^ (e' + 1)
 | 0, a, b, h1, _, _ => by rw [Nat.pow_zero] at h1; omega
 | e + 1, a, b, h1, h2, h3 => by
  have p4 : 2 ^ (e + 1) = 2 * 2 ^ e := by rw [Nat.pow_succ]; omega
  have p6 : 2 ^ (e + 1 + 1) = 2 * (2 * 2 ^ e) := by rw [Nat.pow_succ, Nat.pow_succ]; omega
  have p5 : 0 < 2 ^ e := Nat.two_pow_pos _; have p7 : (2 ^ (e + 1) - 1) / 2 = 2 ^ e - 1 := by omega
  by_cases ho : a % 2 = 1
  ·rw [stripT_odd (by omega), stripT_odd (a := a) (b := 2 ^ (e + 1) - 1) ho, p7]; exact strip_left e (a / 2) (b / 2) (by omega) (by omega) (by omega)
  ·exact ⟨e + 1, a, b, stripT_even (by omega), stripT_even (by omega), by omega, h2, h3⟩
theorem strip_full : ∀ e b, 2 ^ e ≤ b → b < 2 ^ (e + 1) → stripT (2 ^ e - 1) b = (0, 1)
 | 0, b, h1, h2 => by
  rw [Nat.pow_zero] at h1; rw [Nat.pow_succ, Nat.pow_zero] at h2; obtain rfl : b = 1 := by omega
  exact stripT_even rfl
 | e + 1, b, h1, h2 => by
  have p4 : 2 ^ (e + 1) = 2 * 2 ^ e := by rw [Nat.pow_succ]; omega
  have p6 : 2 ^ (e + 1 + 1) = 2 * (2 * 2 ^ e) := by rw [Nat.pow_succ, Nat.pow_succ]; omega
  have p5 : 0 < 2 ^ e := Nat.two_pow_pos _; rw [stripT_odd (by omega), show (2 ^ (e + 1) - 1) / 2 = 2 ^ e - 1 by omega]; exact strip_full e (b / 2) (by omega) (by omega)
def hf (n : Nat) : Nat := 2 ^ Nat.log2 (n - 1)
theorem hf_spec {n : Nat} (h : 2 ≤ n) : 1 ≤ hf n ∧ hf n < n ∧ n ≤ 2 * hf n := by
 unfold hf; have h1 := Nat.log2_self_le (n := n - 1) (by omega); have h2 := Nat.lt_log2_self (n := n - 1); have h3 : 2 ^ (Nat.log2 (n - 1) + 1) = 2 * 2 ^ Nat.log2 (n - 1) := by rw [Nat.pow_succ]; omega
 have h4 : 0 < 2 ^ Nat.log2 (n - 1) := Nat.two_pow_pos _; omega
theorem pow_le_iff {a b : Nat} (h : 2 ^ a < 2 ^ b) : a < b := (Nat.pow_lt_pow_iff_right (by omega)).1 h
theorem hf_max {n e : Nat} (h : 2 ^ e < n) : 2 ^ e ≤ hf n := by
 have h1 := hf_spec (n := n) (by have := Nat.two_pow_pos e; omega); unfold hf at h1 ⊢; have h2 : 2 ^ e < 2 ^ (Nat.log2 (n - 1) + 1) := by rw [Nat.pow_succ]; omega
 exact Nat.pow_le_pow_right (by omega) (by have := pow_le_iff h2; omega)
end Go.Proofs.YtmfjcachghboiaaDoor
namespace Go.Proofs.YtmfjcachghboiaaDoor
section
variable (lf : Int → Int) (pr : Int → Int → Int)
def rootT (l : List Int) : Int := if _h : 2 ≤ l.length then pr (rootT (l.take (hf l.length))) (rootT (l.drop (hf l.length))) else lf (l.headD 0)
termination_by l.length
decreasing_by
 all_goals
  have := hf_spec _h
  simp
  omega
def inclT (l : List Int) (i : Nat) : List Int :=
 if _h : 2 ≤ l.length then if i < hf l.length then inclT (l.take (hf l.length)) i ++ [rootT lf pr (l.drop (hf l.length))] else inclT (l.drop (hf l.length)) (i - hf l.length) ++ [rootT lf pr (l.take (hf l.length))] else []
termination_by l.length
decreasing_by
 all_goals
  have := hf_spec _h
  simp
  omega
def extT (l : List Int) (m : Nat) (mark : Bool) : List Int :=
 if _h : 2 ≤ l.length ∧ m ≠ l.length then if m ≤ hf l.length then extT (l.take (hf l.length)) m mark ++ [rootT lf pr (l.drop (hf l.length))] else extT (l.drop (hf l.length)) (m - hf l.length) false ++ [rootT lf pr (l.take (hf l.length))]
 else if mark = true then [] else [rootT lf pr l]
termination_by l.length
decreasing_by
 all_goals
  have := hf_spec _h.1
  simp
  omega
def growJ (a : Int) (m n : Nat) (mark : Bool) (path : List Int) : Int × Int × Bool :=
 if _h : 2 ≤ n ∧ m ≠ n then
  if path = [] then (0, 0, false)
  else if m ≤ hf n then ((growJ a m (hf n) mark path.dropLast).1, pr (growJ a m (hf n) mark path.dropLast).2.1 (path.getLastD 0), (growJ a m (hf n) mark path.dropLast).2.2)
  else (pr (path.getLastD 0) (growJ a (m - hf n) (n - hf n) false path.dropLast).1, pr (path.getLastD 0) (growJ a (m - hf n) (n - hf n) false path.dropLast).2.1, (growJ a (m - hf n) (n - hf n) false path.dropLast).2.2)
 else if mark = true then (a, a, path.isEmpty) else if path.length = 1 then (path.headD 0, path.headD 0, true) else (0, 0, false)
termination_by n
decreasing_by
 all_goals
  have := hf_spec _h.1; omega
variable {lf} {pr}
theorem rootT_split {l : List Int} (h : 2 ≤ l.length) : rootT lf pr l = pr (rootT lf pr (l.take (hf l.length))) (rootT lf pr (l.drop (hf l.length))) := by rw [rootT, dif_pos h]
theorem rootT_one {l : List Int} (h : ¬2 ≤ l.length) : rootT lf pr l = lf (l.headD 0) := by rw [rootT, dif_neg h]
theorem growJ_end {a : Int} {m n : Nat} {mark : Bool} {path : List Int} (h : ¬(2 ≤ n ∧ m ≠ n)) : growJ pr a m n mark path = if mark = true then (a, a, path.isEmpty) else if path.length = 1 then (path.headD 0, path.headD 0, true) else (0, 0, false) := by rw [growJ, dif_neg h]
theorem growJ_nil {a : Int} {m n : Nat} {mark : Bool} (h : 2 ≤ n ∧ m ≠ n) : growJ pr a m n mark [] = (0, 0, false) := by rw [growJ, dif_pos h, if_pos rfl]
theorem growJ_left {a : Int} {m n : Nat} {mark : Bool} {ps : List Int} {p : Int} (h : 2 ≤ n ∧ m ≠ n) (hm : m ≤ hf n) :
  growJ pr a m n mark (ps ++ [p]) = ((growJ pr a m (hf n) mark ps).1, pr (growJ pr a m (hf n) mark ps).2.1 p, (growJ pr a m (hf n) mark ps).2.2) := by
 rw [growJ, dif_pos h, if_neg (by simp), if_pos hm]; simp
theorem growJ_right {a : Int} {m n : Nat} {mark : Bool} {ps : List Int} {p : Int} (h : 2 ≤ n ∧ m ≠ n) (hm : ¬m ≤ hf n) :
  growJ pr a m n mark (ps ++ [p]) = (pr p (growJ pr a (m - hf n) (n - hf n) false ps).1, pr p (growJ pr a (m - hf n) (n - hf n) false ps).2.1, (growJ pr a (m - hf n) (n - hf n) false ps).2.2) := by
 rw [growJ, dif_pos h, if_neg (by simp), if_neg hm]; simp
theorem snoc_cases (path : List Int) : path = [] ∨ ∃ ps p, path = ps ++ [p] := by
 rcases List.eq_nil_or_concat path with h | ⟨ps, p, h⟩
 ·exact .inl h
 ·exact .inr ⟨ps, p, by rw [h]; simp⟩
variable (pr) in
def growO (a : Int) (m n : Nat) (mark : Bool) (path : List Int) : Option (Int × Int) := if (growJ pr a m n mark path).2.2 = true then some ((growJ pr a m n mark path).1, (growJ pr a m n mark path).2.1) else none
theorem growO_left {a : Int} {m n : Nat} {mark : Bool} {ps : List Int} {p : Int} (h : 2 ≤ n ∧ m ≠ n) (hm : m ≤ hf n) :
  growO pr a m n mark (ps ++ [p]) = (growO pr a m (hf n) mark ps).map fun s => (s.1, pr s.2 p) := by
 unfold growO; rw [growJ_left h hm]
 dsimp only
 cases (growJ pr a m (hf n) mark ps).2.2 <;> rfl
theorem growO_right {a : Int} {m n : Nat} {mark : Bool} {ps : List Int} {p : Int} (h : 2 ≤ n ∧ m ≠ n) (hm : ¬m ≤ hf n) :
  growO pr a m n mark (ps ++ [p]) = (growO pr a (m - hf n) (n - hf n) false ps).map fun s => (pr p s.1, pr p s.2) := by
 unfold growO; rw [growJ_right h hm]
 dsimp only
 cases (growJ pr a (m - hf n) (n - hf n) false ps).2.2 <;> rfl
theorem growO_nil {a : Int} {m n : Nat} {mark : Bool} (h : 2 ≤ n ∧ m ≠ n) : growO pr a m n mark [] = none := by unfold growO; rw [growJ_nil h]; rfl
theorem growO_full {a : Int} {n : Nat} {path : List Int} : growO pr a n n false path = if path.length = 1 then some (path.headD 0, path.headD 0) else none := by
 unfold growO; rw [growJ_end (by omega)]
 by_cases h : path.length = 1 <;> simp [h]
theorem growO_mark {a : Int} {n : Nat} {path : List Int} : growO pr a n n true path = if path = [] then some (a, a) else none := by
 unfold growO; rw [growJ_end (by omega)]; cases path <;> simp
theorem growO_single {a c : Int} {m n : Nat} (h : 1 ≤ m) (hm : m < n) : growO pr a m n false [c] = none := by
 have hn : 2 ≤ n ∧ m ≠ n := by omega
 obtain ⟨h1, h2, h3⟩ := hf_spec hn.1; rw [show [c] = [] ++ [c] from rfl]
 by_cases hk : m ≤ hf n
 ·rw [growO_left hn hk]
  by_cases he : m = hf n
  ·rw [← he, growO_full]; rfl
  ·rw [growO_nil (by omega)]; rfl
 ·rw [growO_right hn hk, growO_nil (by omega)]; rfl
theorem grow_walk : ∀ (n : Nat) (a c : Int) (m : Nat) (ps : List Int), 1 ≤ m → m < n →
  growO pr a m n false (c :: ps) = wlk (fun s p => (pr p s.1, pr p s.2)) (fun s p => (s.1, pr s.2 p)) (stripT (m - 1) (n - 1)).1 (stripT (m - 1) (n - 1)).2 (c, c) ps := by
 intro n
 induction n using Nat.strongRecOn with
 | ind n ih =>
  intro a c m ps hm1 hm; have hn : 2 ≤ n ∧ m ≠ n := by omega
  obtain ⟨h1, h2, h3⟩ := hf_spec hn.1; obtain ⟨e, he⟩ : ∃ e, hf n = 2 ^ e := ⟨_, rfl⟩; have hpow : 2 ^ (e + 1) = 2 * 2 ^ e := by rw [Nat.pow_succ]; omega
  by_cases hk : m ≤ hf n
  ·by_cases hmk : m = hf n
   ·have hs := strip_full e (n - 1) (by omega) (by omega); rw [show 2 ^ e - 1 = m - 1 by omega] at hs; rw [hs]
    dsimp only
    rcases snoc_cases ps with rfl | ⟨qs, p, rfl⟩
    ·rw [growO_single hm1 hm, wlk_nil (by omega)]
    ·rw [← List.cons_append, growO_left hn hk, ← hmk, growO_full]; cases qs with
     | nil =>
      rw [List.nil_append, wlk_01]; rfl
     | cons q qs =>
      rw [List.cons_append, wlk_01_more (by simp)]; rfl
   ·obtain ⟨e', a', b', hs1, hs2, ha', hb1, hb2⟩ := strip_left e (m - 1) (n - 1) (by omega) (by omega) (by omega); rw [hs1]
    dsimp only
    rcases snoc_cases ps with rfl | ⟨qs, p, rfl⟩
    ·have : 0 < 2 ^ e' := Nat.two_pow_pos _; rw [growO_single hm1 hm, wlk_nil (by omega)]
    ·have h4 := ih (hf n) h2 a c m qs hm1 (by omega); rw [he, hs2] at h4; rw [← List.cons_append, growO_left hn hk, wlk_left p qs e' a' b' (c, c) ha' hb1 hb2, he, h4]
  ·obtain ⟨e', hs, ha', hb'⟩ := strip_right e (m - hf n - 1) (n - hf n - 1) (by omega) (by omega); rw [show 2 ^ e + (m - hf n - 1) = m - 1 by omega, show 2 ^ e + (n - hf n - 1) = n - 1 by omega] at hs; rw [hs]
   dsimp only
   rcases snoc_cases ps with rfl | ⟨qs, p, rfl⟩
   ·have : 0 < 2 ^ e' := Nat.two_pow_pos _; rw [growO_single hm1 hm, wlk_nil (by omega)]
   ·have h4 := ih (n - hf n) (by omega) a c (m - hf n) qs (by omega) (by omega); rw [← List.cons_append, growO_right hn hk, wlk_right p qs e' _ _ (c, c) ha' hb', h4]
def isPow (m : Nat) : Prop := ∃ e, m = 2 ^ e
theorem grow_pow : ∀ (n : Nat) (a : Int) (m : Nat) (path : List Int), isPow m → m < n → growO pr a m n true path = growO pr a m n false (a :: path) := by
 intro n
 induction n using Nat.strongRecOn with
 | ind n ih =>
  rintro a m path ⟨e, rfl⟩ hm; have hpos : 0 < 2 ^ e := Nat.two_pow_pos _; have hn : 2 ≤ n ∧ 2 ^ e ≠ n := by omega
  obtain ⟨h1, h2, h3⟩ := hf_spec hn.1; have hk := hf_max hm; rcases snoc_cases path with rfl | ⟨ps, p, rfl⟩
  ·rw [growO_nil hn, growO_single (by omega) hm]
  ·rw [← List.cons_append, growO_left hn hk, growO_left hn hk]
   by_cases he : 2 ^ e = hf n
   ·rw [← he, growO_mark, growO_full]; cases ps <;> simp
   ·rw [ih (hf n) h2 a (2 ^ e) ps ⟨e, rfl⟩ (by omega)]
theorem growJ_any : ∀ (n : Nat) (a a' : Int) (m : Nat) (path : List Int), growJ pr a m n false path = growJ pr a' m n false path := by
 intro n
 induction n using Nat.strongRecOn with
 | ind n ih =>
  intro a a' m path
  by_cases hn : 2 ≤ n ∧ m ≠ n
  ·obtain ⟨h1, h2, h3⟩ := hf_spec hn.1; rcases snoc_cases path with rfl | ⟨ps, p, rfl⟩
   ·rw [growJ_nil hn, growJ_nil hn]
   ·by_cases hk : m ≤ hf n
    ·rw [growJ_left hn hk, growJ_left hn hk, ih (hf n) h2 a a']
    ·rw [growJ_right hn hk, growJ_right hn hk, ih (n - hf n) (by omega) a a']
  ·rw [growJ_end hn, growJ_end hn]; rfl
theorem grow_other : ∀ (n : Nat) (a a' : Int) (m : Nat) (path : List Int), 1 ≤ m → ¬isPow m → m < n → growJ pr a m n true path = growJ pr a' m n false path := by
 intro n
 induction n using Nat.strongRecOn with
 | ind n ih =>
  intro a a' m path hm1 hp hm; have hn : 2 ≤ n ∧ m ≠ n := by omega
  obtain ⟨h1, h2, h3⟩ := hf_spec hn.1; rcases snoc_cases path with rfl | ⟨ps, p, rfl⟩
  ·rw [growJ_nil hn, growJ_nil hn]
  ·by_cases hk : m ≤ hf n
   ·have he : m ≠ hf n := fun e => hp ⟨_, e⟩
    rw [growJ_left hn hk, growJ_left hn hk, ih (hf n) h2 a a' m ps hm1 hp (by omega)]
   ·rw [growJ_right hn hk, growJ_right hn hk, growJ_any (n - hf n) a a']
end
end Go.Proofs.YtmfjcachghboiaaDoor
namespace Go.Proofs.YtmfjcachghboiaaDoor
section
variable {lf : Int → Int} {pr : Int → Int → Int}
theorem inclT_left {l : List Int} {i : Nat} (h : 2 ≤ l.length) (hi : i < hf l.length) : inclT lf pr l i = inclT lf pr (l.take (hf l.length)) i ++ [rootT lf pr (l.drop (hf l.length))] := by rw [inclT, dif_pos h, if_pos hi]
theorem inclT_right {l : List Int} {i : Nat} (h : 2 ≤ l.length) (hi : ¬i < hf l.length) : inclT lf pr l i = inclT lf pr (l.drop (hf l.length)) (i - hf l.length) ++ [rootT lf pr (l.take (hf l.length))] := by rw [inclT, dif_pos h, if_neg hi]
theorem inclT_one {l : List Int} {i : Nat} (h : ¬2 ≤ l.length) : inclT lf pr l i = [] := by rw [inclT, dif_neg h]
theorem extT_left {l : List Int} {m : Nat} {mark : Bool} (h : 2 ≤ l.length ∧ m ≠ l.length) (hm : m ≤ hf l.length) : extT lf pr l m mark = extT lf pr (l.take (hf l.length)) m mark ++ [rootT lf pr (l.drop (hf l.length))] := by rw [extT, dif_pos h, if_pos hm]
theorem extT_right {l : List Int} {m : Nat} {mark : Bool} (h : 2 ≤ l.length ∧ m ≠ l.length) (hm : ¬m ≤ hf l.length) : extT lf pr l m mark = extT lf pr (l.drop (hf l.length)) (m - hf l.length) false ++ [rootT lf pr (l.take (hf l.length))] := by rw [extT, dif_pos h, if_neg hm]
theorem extT_end {l : List Int} {m : Nat} {mark : Bool} (h : ¬(2 ≤ l.length ∧ m ≠ l.length)) : extT lf pr l m mark = if mark = true then [] else [rootT lf pr l] := by rw [extT, dif_neg h]
theorem hf_between {m n : Nat} (h1 : hf n < m) (h2 : m ≤ n) : hf m = hf n := by
 have hn : 2 ≤ n := by have := Nat.two_pow_pos (Nat.log2 (n - 1)); unfold hf at h1; omega
 have hm : 2 ≤ m := by have := Nat.two_pow_pos (Nat.log2 (n - 1)); unfold hf at h1; omega
 obtain ⟨a1, a2, a3⟩ := hf_spec hn; obtain ⟨b1, b2, b3⟩ := hf_spec hm; have c1 : hf n ≤ hf m := hf_max (e := Nat.log2 (n - 1)) h1; have c2 : hf m ≤ hf n := hf_max (e := Nat.log2 (m - 1)) (n := n) (by unfold hf at b2; omega); omega
theorem grow_ext : ∀ (n : Nat) (l : List Int), l.length = n → ∀ (m : Nat) (mark : Bool) (a : Int), 1 ≤ m → m ≤ n → (mark = true → a = rootT lf pr (l.take m)) →
  growJ pr a m n mark (extT lf pr l m mark) = (rootT lf pr (l.take m), rootT lf pr l, true) := by
 intro n
 induction n using Nat.strongRecOn with
 | ind n ih =>
  intro l hl m mark a hm1 hm ha; subst hl
  by_cases hn : 2 ≤ l.length ∧ m ≠ l.length
  ·obtain ⟨h1, h2, h3⟩ := hf_spec hn.1; rw [rootT_split (l := l) hn.1]
   by_cases hk : m ≤ hf l.length
   ·have h4 := ih (hf l.length) h2 (l.take (hf l.length)) (by simp; omega) m mark a hm1 hk (by rw [List.take_take, Nat.min_eq_left hk]; exact ha); rw [List.take_take, Nat.min_eq_left hk] at h4; rw [extT_left hn hk, growJ_left hn hk, h4]
   ·have h4 := ih (l.length - hf l.length) (by omega) (l.drop (hf l.length)) (by simp) (m - hf l.length) false a (by omega) (by omega) (fun h => by cases h); have h5 : rootT lf pr (l.take m) = pr (rootT lf pr (l.take (hf l.length))) (rootT lf pr ((l.drop (hf l.length)).take (m - hf l.length))) := by
     have hlen : (l.take m).length = m := by simp; omega
     rw [rootT_split (l := l.take m) (by omega), hlen, hf_between (n := l.length) (by omega) hm, List.take_take, Nat.min_eq_left (by omega), List.drop_take]
    rw [extT_right hn hk, growJ_right hn hk, h4, h5]
  ·rw [extT_end hn, growJ_end hn]; have h5 : l.take m = l := List.take_of_length_le (by omega); rw [h5] at ha ⊢; cases mark
   ·simp
   ·rw [ha rfl]; simp
def plen (i n : Nat) : Nat := if _h : 2 ≤ n then if i < hf n then plen i (hf n) + 1 else plen (i - hf n) (n - hf n) + 1 else 0
termination_by n
decreasing_by
 all_goals
  have := hf_spec _h; omega
def glen (m n : Nat) (mark : Bool) : Nat := if _h : 2 ≤ n ∧ m ≠ n then if m ≤ hf n then glen m (hf n) mark + 1 else glen (m - hf n) (n - hf n) false + 1 else if mark = true then 0 else 1
termination_by n
decreasing_by
 all_goals
  have := hf_spec _h.1; omega
theorem incl_len : ∀ (n : Nat) (l : List Int), l.length = n → ∀ i, (inclT lf pr l i).length = plen i n := by
 intro n
 induction n using Nat.strongRecOn with
 | ind n ih =>
  intro l hl i; subst hl; rw [plen]
  by_cases hn : 2 ≤ l.length
  ·obtain ⟨h1, h2, h3⟩ := hf_spec hn; rw [dif_pos hn]
   by_cases hk : i < hf l.length
   ·rw [if_pos hk, inclT_left hn hk, List.length_append, ih (hf l.length) h2 _ (by simp; omega)]; rfl
   ·rw [if_neg hk, inclT_right hn hk, List.length_append, ih (l.length - hf l.length) (by omega) _ (by simp)]; rfl
  ·rw [dif_neg hn, inclT_one hn]; rfl
theorem ext_len : ∀ (n : Nat) (l : List Int), l.length = n → ∀ m mark, (extT lf pr l m mark).length = glen m n mark := by
 intro n
 induction n using Nat.strongRecOn with
 | ind n ih =>
  intro l hl m mark; subst hl; rw [glen]
  by_cases hn : 2 ≤ l.length ∧ m ≠ l.length
  ·obtain ⟨h1, h2, h3⟩ := hf_spec hn.1; rw [dif_pos hn]
   by_cases hk : m ≤ hf l.length
   ·rw [if_pos hk, extT_left hn hk, List.length_append, ih (hf l.length) h2 _ (by simp; omega)]; rfl
   ·rw [if_neg hk, extT_right hn hk, List.length_append, ih (l.length - hf l.length) (by omega) _ (by simp)]; rfl
  ·rw [dif_neg hn, extT_end hn]; cases mark <;> rfl
theorem plen_le : ∀ (e n i : Nat), n ≤ 2 ^ e → plen i n ≤ e
 | 0, n, i, h => by rw [Nat.pow_zero] at h; rw [plen, dif_neg (by omega)]; exact Nat.le_refl _
 | e + 1, n, i, h => by
  rw [plen]
  by_cases hn : 2 ≤ n
  ·obtain ⟨h1, h2, h3⟩ := hf_spec hn; have h4 : hf n ≤ 2 ^ e := by
    have h5 : hf n < 2 ^ (e + 1) := by omega
    unfold hf at h5 ⊢; exact Nat.pow_le_pow_right (by omega) (by have := pow_le_iff h5; omega)
   rw [dif_pos hn]
   split
   ·have := plen_le e (hf n) i h4; omega
   ·have := plen_le e (n - hf n) (i - hf n) (by omega); omega
  ·rw [dif_neg hn]; omega
theorem glen_le : ∀ (e n m : Nat) (mark : Bool), n ≤ 2 ^ e → glen m n mark ≤ e + 1
 | 0, n, m, mark, h => by rw [Nat.pow_zero] at h; rw [glen, dif_neg (by omega)]; split <;> omega
 | e + 1, n, m, mark, h => by
  rw [glen]
  by_cases hn : 2 ≤ n ∧ m ≠ n
  ·obtain ⟨h1, h2, h3⟩ := hf_spec hn.1; have h4 : hf n ≤ 2 ^ e := by
    have h5 : hf n < 2 ^ (e + 1) := by omega
    unfold hf at h5 ⊢; exact Nat.pow_le_pow_right (by omega) (by have := pow_le_iff h5; omega)
   rw [dif_pos hn]
   split
   ·have := glen_le e (hf n) m mark h4; omega
   ·have := glen_le e (n - hf n) (m - hf n) false (by omega); omega
  ·rw [dif_neg hn]; split <;> omega
end
end Go.Proofs.YtmfjcachghboiaaDoor
namespace Go.Proofs.YtmfjcachghboiaaDoor
open Go.RowKit
theorem bitLenAux_eq : ∀ (f x : Nat), x < 2 ^ f → Lib.bitLenAux f x = if x = 0 then 0 else Nat.log2 x + 1
 | 0, x, h => by
  rw [Nat.pow_zero] at h; obtain rfl : x = 0 := by omega
  rfl
 | f + 1, x, h => by
  rw [Lib.bitLenAux, bitLenAux_eq f (x / 2) (by rw [Nat.pow_succ] at h; omega)]
  by_cases h0 : x = 0
  ·simp [h0]
  ·rw [if_neg h0, if_neg h0]
   by_cases h1 : x / 2 = 0
   ·rw [if_pos h1]; obtain rfl : x = 1 := by omega
    rfl
   ·rw [if_neg h1, Nat.log2_def (n := x), if_pos (by omega)]; omega
theorem bitLen_eq {x : Nat} (h0 : 0 < x) (h : x < 10000) : Lib.bitLen x = Nat.log2 x + 1 := by
 unfold Lib.bitLen; rw [bitLenAux_eq 64 x (by omega), if_neg (by omega)]
set_option maxHeartbeats 1000000 in
theorem half_any (n : Nat) (w : World) (h : 2 ≤ n) (hn : n ≤ 10000) : Calls Tryd.prog 90 #[.int .i64 n] w fun e w' => e = .returned (.int .i64 (hf n)) ∧ w = w' := by
 have hb := bitLen_eq (x := n - 1) (by omega) (by omega); have hb2 : Nat.log2 (n - 1) < 14 := by
  have h1 := Nat.log2_self_le (n := n - 1) (by omega); refine Nat.lt_of_not_le fun h2 => ?_
  have h3 : 2 ^ 14 ≤ 2 ^ Nat.log2 (n - 1) := Nat.pow_le_pow_right (by omega) h2; omega
 have hl := Tryd.bits_Len ((n : Int) - 1)  w (by omega) (by omega); rw [show ((n : Int) - 1).toNat = n - 1 by omega, hb] at hl; have H := hide hl; have h1 : (0 : Int) ≤ (n : Int) - 1 := by omega
 have h2 : (n : Int) - 1 ≤ 10000 := by omega
 unfold hf; obtain ⟨e, he⟩ : ∃ e, e = Nat.log2 (n - 1) := ⟨_, rfl⟩; rw [← he] at H hb2 ⊢; clear hb hl he
 go_enter Tryd.func90, Tryd.ntmps90
 go_wp2_with (go_at_call 91; refine H.out.mono ?_; rintro e w2 ⟨rfl, rfl⟩)
 go_ret
 exact ⟨congrArg (fun x => Ending.returned (.int .i64 x)) ((by decide +kernel : ∀ e < 14, wrap64 ((2 : Int) ^ e) = ((2 ^ e : Nat) : Int)) e hb2), rfl⟩
set_option maxHeartbeats 2000000 in
theorem parts_any (b o c n : Nat) (w : World) (h : 2 ≤ n) (hn : n ≤ 10000) (hc : n ≤ c) : Calls Tryd.prog 64 #[.slice (some ⟨b, o, none⟩) n c] w fun e w' =>
  e = .returned (.tuple #[.slice (some ⟨b, o, none⟩) (hf n) (hf n), .slice (some ⟨b, o + hf n, none⟩) (n - hf n) (n - hf n)]) ∧ Below w.heap.size w w' := by
 have HH := hide fun W => half_any n W h hn
 obtain ⟨s1, s2, s3⟩ := hf_spec h; obtain ⟨k, hk⟩ : ∃ k, k = hf n := ⟨_, rfl⟩; rw [← hk] at HH s1 s2 s3 ⊢; have p1 : (0 : Int) ≤ k := by omega
 have p2 : (k : Int) ≤ n := by omega
 have p3 : (k : Int) ≤ c := by omega
 have p4 : (n : Int) ≤ c := by omega
 have p5 : ¬ n = k := by omega
 have p6 : ¬ c = k := by omega
 clear hk
 go_enter Tryd.func64, Tryd.ntmps64
 go_upto_region 3 with (go_at_call 90; refine (HH.out _).mono ?_; rintro e w2 ⟨rfl, rfl⟩)
 go_region
 all_goals
  go_wp2
  go_ret2
  exact ⟨rfl, (Below.refl _ _).drew⟩
def rootF (l : List Int) : Int := rootT leafF pairF l
set_option maxHeartbeats 2000000 in
theorem root_any : ∀ (n : Nat) (A : Option Addr) (c : Nat) (l : List Int) (w : World), l.length = n → 1 ≤ n → n ≤ 10000 → n ≤ c → KS .u64 w A l →
  Calls Tryd.prog 65 #[.slice A n c] w fun e w' => e = .returned (.int .u64 (rootF l)) ∧ Below w.heap.size w w' := by
 intro n
 induction n using Nat.strongRecOn with
 | ind n ih =>
  intro A c l w hl h1 hn hc h; obtain ⟨b, o, rfl, hbl, hcell⟩ := h.at_ (i := 0) (by omega)
  by_cases hn2 : 2 ≤ n
  ·have hsp := rootT_split (lf := leafF) (pr := pairF) (l := l) (by omega); rw [hl] at hsp; obtain ⟨s1, s2, s3⟩ := hf_spec hn2; have PP := hide fun W => parts_any b o c n W hn2 hn hc
   have hsh := KS.shift (n := hf n) h (by omega); obtain ⟨k, hk⟩ : ∃ k, k = hf n := ⟨_, rfl⟩; rw [← hk] at PP s1 s2 s3 hsp hsh; have hne : ((n : Int) == 1) = false := by simp; omega
   have R1 := hide fun W (s : KS .u64 W (some ⟨b, o, none⟩) (l.take k)) => ih k s2 (some ⟨b, o, none⟩) k (l.take k) W (by simp; omega) s1 (by omega) (Nat.le_refl _) s
   have R2 := hide fun W (s : KS .u64 W (some ⟨b, o + k, none⟩) (l.drop k)) => ih (n - k) (by omega) (some ⟨b, o + k, none⟩) (n - k) (l.drop k) W (by simp; omega) (by omega) (by omega) (Nat.le_refl _) s
   have K1 := hide (h.pre k); have K2 := hide hsh; have HSP := hide hsp; clear hsp ih hk hsh hcell h; obtain ⟨x, hx⟩ : ∃ x, x = rootF (l.take k) := ⟨_, rfl⟩; obtain ⟨y, hy⟩ : ∃ x, x = rootF (l.drop k) := ⟨_, rfl⟩; have HX := hide hx; have HY := hide hy; rw [← hx] at R1; rw [← hy] at R2; clear hx hy
   go_enter Tryd.func65, Tryd.ntmps65
   go_wp2_with (first
    | (go_at_call 64; refine (PP.out _).mono ?_; rintro e w2 ⟨rfl, hb⟩; have K1 := hide (K1.out.then_ hb); have K2 := hide (K2.out.then_ hb); have BB := hide hb; clear hb)
    | (go_at_call 65; with_reducible refine (R1.out _ K1.out).mono ?_; rintro e w3 ⟨rfl, hb⟩; have K2 := hide (K2.out.then_ hb); have BB := hide (BB.out.trans (hb.mono BB.out.size)); clear hb K1)
    | (go_at_call 65; with_reducible refine (R2.out _ K2.out).mono ?_; rintro e w4 ⟨rfl, hb⟩; have BB := hide (BB.out.trans (hb.mono BB.out.size)); clear hb)
    | (go_at_call 71; refine (pair_any _ _ _).mono ?_; rintro e w5 ⟨rfl, hb⟩; have BB := hide (BB.out.trans (hb.mono BB.out.size)); clear hb))
   go_ret
   exact ⟨by rw [show rootF l = pairF x y by rw [HX.out, HY.out]; exact HSP.out]; rfl, BB.out⟩
  ·obtain rfl : n = 1 := by omega
   have hr : rootF l = leafF l[0] := by
    unfold rootF; rw [rootT_one (by omega)]
    congr 1
    cases l with
    | nil => simp at hl
    | cons x l => rfl
   rw [hr]; have c0 := hcell 0 (by omega); rw [Nat.add_zero] at c0; clear hr hcell ih
   go_enter Tryd.func65, Tryd.ntmps65
   go_wp2_with (go_at_call 85; refine (leaf_any _ _).mono ?_; rintro e w2 ⟨rfl, hb⟩)
   go_ret
   exact ⟨rfl, hb⟩
def checkS (l : List Int) : Int := if l.length = 0 then 1 else if 4096 < l.length then 2 else 0
theorem check_any (A : Option Addr) (c : Nat) (l : List Int) (w : World) : Calls Tryd.prog 63 #[.slice A l.length c] w fun e w' => e = .returned (.int .i64 (checkS l)) ∧ w = w' := by
 unfold checkS; obtain ⟨n, hn⟩ : ∃ n, n = l.length := ⟨_, rfl⟩; rw [← hn]; clear hn
 by_cases h0 : n = 0
 ·subst h0
  go_enter Tryd.func63, Tryd.ntmps63
  go_wp2
  go_ret
  exact ⟨rfl, rfl⟩
 ·have q0 : ((n : Int) == 0) = false := by simp; omega
  by_cases h1 : 4096 < n
  ·have q1 : decide (4096 < (n : Int)) = true := by simp; omega
   rw [if_neg h0, if_pos h1]
   go_enter Tryd.func63, Tryd.ntmps63
   go_wp2
   go_ret
   exact ⟨rfl, rfl⟩
  ·have q1 : decide (4096 < (n : Int)) = false := by simp; omega
   rw [if_neg h0, if_neg h1]
   go_enter Tryd.func63, Tryd.ntmps63
   go_wp2
   go_ret
   exact ⟨rfl, rfl⟩
def rootS (l : List Int) : Int × Int := if checkS l ≠ 0 then (0, checkS l) else (rootF l, 0)
theorem checkS_ok {l : List Int} (h : checkS l = 0) : 1 ≤ l.length ∧ l.length ≤ 4096 := by
 unfold checkS at h
 split at h
 ·cases h
 ·split at h
  ·cases h
  ·omega
theorem Root_any (A : Option Addr) (c : Nat) (l : List Int) (w : World) (hc : l.length ≤ c) (h : KS .u64 w A l) :
  Calls Tryd.prog 77 #[.slice A l.length c] w fun e w' => e = .returned (.tuple #[.int .u64 (rootS l).1, .int .i64 (rootS l).2]) ∧ Below w.heap.size w w' := by
 have HC := hide fun W => check_any A c l W
 unfold rootS
 by_cases hk : checkS l = 0
 ·obtain ⟨h1, h2⟩ := checkS_ok hk; have R := hide (root_any l.length A c l w rfl h1 (by omega) hc h); rw [if_neg (by simpa using hk)]; rw [hk] at HC; clear hk
  go_enter Tryd.func77, Tryd.ntmps77
  go_wp2_with (first
   | (go_at_call 63; refine (HC.out _).mono ?_; rintro e w2 ⟨rfl, rfl⟩)
   | (go_at_call 65; refine R.out.mono ?_; rintro e w3 ⟨rfl, hb⟩))
  go_ret2
  exact ⟨rfl, hb⟩
 ·rw [if_pos hk]; obtain ⟨x, hx⟩ : ∃ x, x = checkS l := ⟨_, rfl⟩; rw [← hx] at HC hk ⊢; have q : (x != 0) = true := by simp [hk]
  clear hk hx
  go_enter Tryd.func77, Tryd.ntmps77
  go_wp2_with (go_at_call 63; refine (HC.out _).mono ?_; rintro e w2 ⟨rfl, rfl⟩)
  go_ret2
  exact ⟨rfl, Below.refl _ _⟩
end Go.Proofs.YtmfjcachghboiaaDoor
namespace Go.Proofs.YtmfjcachghboiaaDoor
open Go.RowKit
theorem grown_set {w wr : World} {g : Nat} (h : w.grownBy wr (some g)) (i : Nat) (u : Value) : w.grownBy (wr.setCell ⟨g, i, none⟩ u) (some g) :=
 ⟨h.os, h.tape, h.output, by show w.heap.size ≤ (wr.heap.modify _ _).size; rw [Array.size_modify]; exact h.size, fun k hk hr => (Below.heap_setCell wr ⟨g, i, none⟩ u k (fun e => hr (congrArg some e))).trans (h.block k hk hr)⟩
theorem grown_drew {w wr : World} {row : Option Nat} (h : w.grownBy wr row) : w.grownBy wr.drew row := ⟨h.os, h.tape, h.output, h.size, h.block⟩
theorem grown_self (w : World) (row : Option Nat) : w.grownBy w row := ⟨rfl, rfl, rfl, Nat.le_refl _, fun _ _ _ => rfl⟩
end Go.Proofs.YtmfjcachghboiaaDoor
namespace Go.Proofs.YtmfjcachghboiaaDoor
open Go.RowKit
theorem wraps63 (n : Int) (h₀ : 0 ≤ n) (h₁ : n < 2 ^ 63) : IntKind.u64.wrap n = n := by rw [IntKind.wrap_u64]; omega
theorem and1 (a : Nat) (h : a < 10000) : bits .and .u64 (a : Int) 1 = ((a % 2 : Nat) : Int) := by
 have := (bits_nat .u64 63 (by decide) wraps63 a 1 (by omega) (by decide)).1; rw [Nat.and_one_is_mod] at this; exact this
abbrev W2 (w : World) (g a b : Nat) : Prop := Blk w g 99 #[.int .u64 a, .int .u64 b]
theorem isR_odd {a b : Nat} (h : a % 2 = 1) : isR a b = true := isR_iff.2 (.inl h)
set_option maxHeartbeats 2000000 in
theorem right_any (g a b : Nat) (w : World) (h : W2 w g a b) (ha : a < 10000) : Calls Tryd.prog 70 #[.pointer (some ⟨g, 0, none⟩)] w fun e w' => e = .returned (.bool (isR a b)) ∧ Below w.heap.size w w' := by
 have c0 : w.cell? ⟨g, 0, none⟩ = some (.int .u64 a) := h.cell 0; have c1 : w.cell? ⟨g, 1, none⟩ = some (.int .u64 b) := h.cell 1; have hl := h.lt; have n0 := fun x : Fut w.heap.size w => (x.cell g 0 hl).trans c0
 have n1 := fun x : Fut w.heap.size w => (x.cell g 1 hl).trans c1
 have hbit := and1 a ha
 by_cases ho : a % 2 = 1
 ·rw [isR_odd ho]; rw [ho] at hbit; clear ho
  go_enter Tryd.func70, Tryd.ntmps70
  go_wp2_with fail
  refine wp_region_fut w.heap.size (by kernel_rfl) (by kernel_rfl) ?_
  repeat (go_big_quiet_step ((first | fail)))
  refine wpQuiet_nil ?_; intro w4 hq'; have hb4 := Fut.of hq'; clear hq'
  go_wp2
  go_ret
  exact ⟨rfl, hb4⟩
 ·rw [show a % 2 = 0 by omega] at hbit; have hr : isR a b = ((a : Int) == (b : Int)) := by
   unfold isR; rw [Bool.eq_iff_iff]
   simp
   omega
  rw [hr]; clear ho hr; cases hq : ((a : Int) == (b : Int))
  all_goals
   go_enter Tryd.func70, Tryd.ntmps70
   go_wp2_with fail
   refine wp_region_fut w.heap.size (by kernel_rfl) (by kernel_rfl) ?_
   repeat (go_big_quiet_step ((first | fail)))
   refine wpQuiet_nil ?_; intro w4 hq'; have hb4 := Fut.of hq'; clear hq'
   go_wp2
   go_ret
   exact ⟨rfl, hb4⟩
def cellN (w : World) (g : Nat) : Nat := match w.cell? ⟨g, 0, none⟩ with | some (.int _ n) => n.toNat | _ => 0
theorem cellN_eq {w : World} {g a b : Nat} (h : W2 w g a b) : cellN w g = a := by
 have c0 : w.cell? ⟨g, 0, none⟩ = some (.int .u64 a) := h.cell 0; unfold cellN; rw [c0]; rfl
theorem w2_half {w : World} {g a b : Nat} (h : W2 w g a b) : W2 ((w.setCell ⟨g, 0, none⟩ (.int .u64 ((a : Int) / 2))).setCell ⟨g, 1, none⟩ (.int .u64 ((b : Int) / 2))).drew g (a / 2) (b / 2) := by
 have := (Blk.set_ (Blk.set_ h 0 (.int .u64 ((a : Int) / 2))) 1 (.int .u64 ((b : Int) / 2))).drew; have e1 : ((a / 2 : Nat) : Int) = (a : Int) / 2 := by omega
 have e2 : ((b / 2 : Nat) : Int) = (b : Int) / 2 := by omega
 unfold W2; rw [e1, e2]; exact this
set_option maxHeartbeats 2000000 in
theorem up_any (g a b : Nat) (lonely : Bool) (w : World) (h : W2 w g a b) (ha : a < 10000) : Calls Tryd.prog 69 #[.pointer (some ⟨g, 0, none⟩), .bool lonely] w fun e w' => (∃ v, e = .returned v) ∧ W2 w' g (if lonely = true then (upT a b).1 else a / 2) (if lonely = true then (upT a b).2 else b / 2) ∧ w.grownBy w' (some g) := by
 go_enter Tryd.func69, Tryd.ntmps69
 go_wp2
 go_loopw [] (fun wr => ∃ a' b' : Nat, W2 wr g a' b' ∧ a' < 10000 ∧ (lonely = false → a' = a ∧ b' = b) ∧ (lonely = true → upT a' b' = upT a b) ∧ w.grownBy wr (some g)) (fun wr => cellN wr g)
 case atStart => exact ⟨a, b, h, ha, fun _ => ⟨rfl, rfl⟩, fun _ => rfl, grown_self _ _⟩
 case round =>
  obtain ⟨a', b', hw, ha', h1, h2, hg⟩ := hrel; have c0 : wr.cell? ⟨g, 0, none⟩ = some (.int .u64 a') := hw.cell 0; have c1 : wr.cell? ⟨g, 1, none⟩ = some (.int .u64 b') := hw.cell 1; have f0 := hw.frozen 0; have f1 := hw.frozen 1; have hbit := and1 a' ha'; have HW := hide hw; have HG := hide hg; have hfin : W2 ((wr.setCell ⟨g, 0, none⟩ (.int .u64 ((a' : Int) / 2))).setCell ⟨g, 1, none⟩ (.int .u64 ((b' : Int) / 2))).drew g (a' / 2) (b' / 2) ∧ w.grownBy ((wr.setCell ⟨g, 0, none⟩ (.int .u64 ((a' : Int) / 2))).setCell ⟨g, 1, none⟩ (.int .u64 ((b' : Int) / 2))).drew (some g) := ⟨w2_half hw, grown_drew (grown_set (grown_set hg _ _) _ _)⟩; have HF := hide hfin; clear hw hg hfin; cases lonely
  ·obtain ⟨rfl, rfl⟩ := h1 rfl; clear h1 h2
   go_wp2_with fail
   go_region
   all_goals
    go_wp2
    go_end0
    exact ⟨⟨_, rfl⟩, HF.out⟩
  ·have hup := h2 rfl; have HU := hide hup; clear h1 h2 hup
   by_cases ho : a' % 2 = 1
   ·rw [ho] at hbit; have HR := hide (upT_odd (b := b') ho); clear ho
    go_wp2_with fail
    go_region
    all_goals
     go_wp2
     go_end0
     exact ⟨⟨_, rfl⟩, by rw [← HU.out, HR.out]; exact HF.out⟩
   ·rw [show a' % 2 = 0 by omega] at hbit
    by_cases hz : a' = 0
    ·subst hz; have HR := hide (show upT 0 b' = (0 / 2, b' / 2) by rw [upT, dif_neg (by omega)]); clear ho
     go_wp2_with fail
     go_region
     all_goals
      go_wp2
      go_end0
      exact ⟨⟨_, rfl⟩, by rw [← HU.out, HR.out]; exact HF.out⟩
    ·have qz : ((a' : Int) != 0) = true := by simp; omega
     have HR := hide (upT_even (b := b') (show a' % 2 = 0 by omega) hz); have HM := hide (cellN_eq HW.out); have HM2 := hide (cellN_eq HF.out.1); have hlt : a' / 2 < a' := by omega
     have HZ := hide hz; clear ho hz
     go_wp2_with fail
     go_region
     all_goals
      go_wp2
      go_roundw
      case rel => exact ⟨a' / 2, b' / 2, HF.out.1, by omega, fun h => (by cases h), fun _ => (by rw [← HU.out, HR.out]), HF.out.2⟩
      case measure => rw [HM.out, HM2.out]; exact hlt
end Go.Proofs.YtmfjcachghboiaaDoor
namespace Go.Proofs.YtmfjcachghboiaaDoor
open Go.RowKit
theorem upT_le : ∀ (n a b : Nat), a ≤ n → (upT a b).1 ≤ a
 | 0, a, b, h => by
  obtain rfl : a = 0 := by omega
  rw [upT, dif_neg (by omega)]; exact Nat.le_refl _
 | n + 1, a, b, h => by
  by_cases hc : a % 2 = 0 ∧ a ≠ 0
  ·rw [upT_even hc.1 hc.2]; exact Nat.le_trans (upT_le n (a / 2) (b / 2) (by omega)) (by omega)
  ·rw [upT, dif_neg hc]
   dsimp only
   omega
def frI (s p : Int) : Int := pairF p s
def flI (s p : Int) : Int := pairF s p
def inclS (root leaf i n : Int) (path : List Int) : Bool := if n < 1 ∨ 4096 < n ∨ i < 0 ∨ n ≤ i then false else decide (wlk frI flI i.toNat (n.toNat - 1) (leafF leaf) path = some root)
set_option maxHeartbeats 4000000 in
theorem included_any (root leaf i n : Int) (A : Option Addr) (c : Nat) (path : List Int) (w : World) (hp : path.length ≤ 9223372036854775807) (h : KS .u64 w A path) :
  Calls Tryd.prog 55 #[.int .u64 root, .int .u64 leaf, .int .i64 i, .int .i64 n, .slice A path.length c] w fun e w' => e = .returned (.bool (inclS root leaf i n path)) ∧ Below w.heap.size w w' := by
 by_cases hbad : n < 1 ∨ 4096 < n ∨ i < 0 ∨ n ≤ i
 ·have hr : inclS root leaf i n path = false := if_pos hbad; rw [hr]; have hcase : decide (n < 1) = true ∨ decide (n < 1) = false ∧ decide (4096 < n) = true ∨ decide (n < 1) = false ∧ decide (4096 < n) = false ∧ decide (i < 0) = true ∨ decide (n < 1) = false ∧ decide (4096 < n) = false ∧ decide (i < 0) = false ∧ decide (n ≤ i) = true := by
   simp only [decide_eq_true_eq, decide_eq_false_iff_not]; omega
  clear hr hbad; rcases hcase with q1 | ⟨q1, q2⟩ | ⟨q1, q2, q3⟩ | ⟨q1, q2, q3, q4⟩
  all_goals
   go_enter Tryd.func55, Tryd.ntmps55
   go_wp2
   go_ret
   exact ⟨rfl, Below.refl _ _⟩
 ·obtain ⟨j, rfl⟩ : ∃ j : Nat, i = j := ⟨i.toNat, by omega⟩; obtain ⟨m, rfl⟩ : ∃ m : Nat, n = m := ⟨n.toNat, by omega⟩; have hr : inclS root leaf j m path = decide (wlk frI flI j (m - 1) (leafF leaf) path = some root) := by unfold inclS; rw [if_neg hbad]; rfl
  have q1 : decide ((m : Int) < 1) = false := decide_eq_false (by omega); have q2 : decide (4096 < (m : Int)) = false := decide_eq_false (by omega); have q3 : decide ((j : Int) < 0) = false := decide_eq_false (by omega); have q4 : decide ((m : Int) ≤ j) = false := decide_eq_false (by omega); have q5 : decide (m ≤ j) = false := decide_eq_false (by omega); have hj : j < 10000 := by omega
  have hm : m ≤ 4096 := by omega
  have hm1 : 1 ≤ m := by omega
  rw [hr]; obtain ⟨res, hres⟩ : ∃ r, r = wlk frI flI j (m - 1) (leafF leaf) path := ⟨_, rfl⟩; rw [← hres]; have HRES := hide hres; have K := hide h; have HK0 := hide h; have BB := hide (Below.refl w.heap.size w); have e1 : ((m - 1 : Nat) : Int) = (m : Int) - 1 := by omega
  have E1 := hide e1; clear hr hbad hres h e1
  go_enter Tryd.func55, Tryd.ntmps55
  go_wp2_with (go_at_call 85; refine (leaf_any _ _).mono ?_; rintro e w2 ⟨rfl, hb⟩; have BB := hide (((Below.refl w.heap.size w).alloc (Nat.le_refl _) (.cells #[.int .u64 (j : Int), .int .u64 ((m : Int) - 1)] 99)).trans (hb.mono (by simp))); have K := hide ((K.out.alloc (.cells #[.int .u64 (j : Int), .int .u64 ((m : Int) - 1)] 99)).then_ hb); have WW := hide (show W2 w2 w.heap.size j (m - 1) by unfold W2; rw [E1.out]; exact (Blk.new w 99 #[.int .u64 (j : Int), .int .u64 ((m : Int) - 1)]).below hb (by simp)); clear hb)
  go_loopw [12, 14, 41] (fun d _ i wr => ∃ (k a b : Nat) (dv : Int), k ≤ path.length ∧ i = .int .i64 k ∧ d = .int .u64 dv ∧ W2 wr w.heap.size a b ∧ a < 10000 ∧ wlk frI flI a b dv (path.drop k) = res ∧ KS .u64 wr A path ∧ Below w.heap.size w wr) (fun _ _ i _ => path.length - (intOf i).toNat)
  case atStart => exact ⟨0, j, m - 1, leafF leaf, Nat.zero_le _, rfl, rfl, WW.out, hj, by rw [HRES.out]; rfl, K.out, BB.out⟩
  case round =>
   clear K BB WW; obtain ⟨k, a, b, dv, hk, rfl, rfl, hw, ha, hwlk, hks, hb⟩ := hrel; have c0 : wr.cell? ⟨w.heap.size, 0, none⟩ = some (.int .u64 a) := hw.cell 0; have c1 : wr.cell? ⟨w.heap.size, 1, none⟩ = some (.int .u64 b) := hw.cell 1; have hlw := hw.lt
   by_cases hlt : k < path.length
   ·obtain ⟨b', o, rfl, hbl, hc⟩ := hks.at_ hlt; have c2 := hc k hlt; rw [List.drop_eq_getElem_cons hlt] at hwlk; obtain ⟨p, hpp⟩ : ∃ p, p = path[k] := ⟨_, rfl⟩; rw [← hpp] at c2 hwlk; clear hc hpp
    by_cases hz : b = 0
    ·subst hz; rw [wlk_end] at hwlk; subst hwlk
     go_wp2
     go_ret
     exact ⟨rfl, hb⟩
    ·have qz : ((b : Int) == 0) = false := by simp; omega
     rw [wlk_cons, if_neg hz] at hwlk; have HW := hide hw; have HB := hide hb; have HK := hide hks; have HR := hide fun W (hh : W2 W w.heap.size a b) => right_any w.heap.size a b W hh ha
     clear hw hb hks; cases hr : isR a b
     ·rw [hr] at HR hwlk; rw [if_neg (by simp)] at hwlk; have HL := hide hwlk; have HU := hide fun W (hh : W2 W w.heap.size a b) => up_any w.heap.size a b false W hh ha
      clear hwlk hr
      go_wp2_with (first
       | (go_at_call 70; refine (HR.out _ HW.out).mono ?_; rintro e w3 ⟨rfl, hb⟩; have HW := hide (HW.out.below hb HW.out.lt); have HB := hide (HB.out.trans (hb.mono HB.out.size)); have HK := hide (HK.out.then_ hb); clear hb)
       | (go_at_call 71; refine (pair_any _ _ _).mono ?_; rintro e w4 ⟨rfl, hb⟩; have HW := hide (HW.out.below hb HW.out.lt); have HB := hide (HB.out.trans (hb.mono HB.out.size)); have HK := hide (HK.out.then_ hb); clear hb)
       | (go_at_call 69; refine (HU.out _ HW.out).mono ?_; rintro e w5 ⟨⟨_, rfl⟩, hw5, hg5⟩; have HB5 := hide (HB.out.grown hg5 HB.out.size (fun g hg => by injection hg with hg; omega)); have HK5 := hide (HK0.out.then_ HB5.out); have HW5 := hide hw5; clear hw5 hg5))
      go_roundw
      case rel => exact ⟨k + 1, a / 2, b / 2, pairF dv p, by omega, by go_num, rfl, HW5.out, by omega, HL.out, HK5.out, HB5.out⟩
      case measure => simp [intOf]; omega
     ·rw [hr] at HR hwlk; rw [if_pos rfl] at hwlk; have HL := hide hwlk; have HU := hide fun W (hh : W2 W w.heap.size a b) => up_any w.heap.size a b true W hh ha
      have hle := upT_le a a b (Nat.le_refl _); clear hwlk hr
      go_wp2_with (first
       | (go_at_call 70; refine (HR.out _ HW.out).mono ?_; rintro e w3 ⟨rfl, hb⟩; have HW := hide (HW.out.below hb HW.out.lt); have HB := hide (HB.out.trans (hb.mono HB.out.size)); have HK := hide (HK.out.then_ hb); clear hb)
       | (go_at_call 71; refine (pair_any _ _ _).mono ?_; rintro e w4 ⟨rfl, hb⟩; have HW := hide (HW.out.below hb HW.out.lt); have HB := hide (HB.out.trans (hb.mono HB.out.size)); have HK := hide (HK.out.then_ hb); clear hb)
       | (go_at_call 69; refine (HU.out _ HW.out).mono ?_; rintro e w5 ⟨⟨_, rfl⟩, hw5, hg5⟩; have HB5 := hide (HB.out.grown hg5 HB.out.size (fun g hg => by injection hg with hg; omega)); have HK5 := hide (HK0.out.then_ HB5.out); have HW5 := hide hw5; clear hw5 hg5))
      go_roundw
      case rel => exact ⟨k + 1, (upT a b).1, (upT a b).2, pairF p dv, by omega, by go_num, rfl, HW5.out, by omega, HL.out, HK5.out, HB5.out⟩
      case measure => simp [intOf]; omega
   ·have hd : path.drop k = [] := List.drop_eq_nil_of_le (by omega); rw [hd] at hwlk
    by_cases hz : b = 0
    ·subst hz; rw [wlk_nil0] at hwlk; subst hwlk; have hre : decide (some dv = some root) = (dv == root) := by rw [Bool.eq_iff_iff]; simp
     have HE := hide hre; clear hre
     go_wp2
     go_ret
     exact ⟨by rw [HE.out]; rfl, hb⟩
    ·have qz : ((b : Int) == 0) = false := by simp; omega
     rw [wlk_nil hz] at hwlk; subst hwlk
     go_wp2
     go_ret
     exact ⟨rfl, hb⟩
end Go.Proofs.YtmfjcachghboiaaDoor
namespace Go.Proofs.YtmfjcachghboiaaDoor
open Go.RowKit
def rvAt (l : List Int) (k i : Nat) : Int := if i < k ∨ l.length ≤ i + k then l.getD (l.length - 1 - i) 0 else l.getD i 0
theorem rvAt_step {l : List Int} {k i : Nat} (hk : (k : Int) < (l.length : Int) - 1 - k) (_ : i < l.length) :
  rvAt l (k + 1) i = if i = l.length - 1 - k then rvAt l k k else if i = k then rvAt l k (l.length - 1 - k) else rvAt l k i := by
 unfold rvAt
 by_cases h1 : i = l.length - 1 - k
 ·subst h1; rw [if_pos rfl, if_pos (by omega), if_neg (by omega), show l.length - 1 - (l.length - 1 - k) = k by omega]
 ·rw [if_neg h1]
  by_cases h2 : i = k
  ·subst h2; rw [if_pos rfl, if_pos (by omega), if_neg (by omega)]
  ·rw [if_neg h2]
   by_cases h3 : i < k ∨ l.length ≤ i + k
   ·rw [if_pos h3, if_pos (by omega)]
   ·rw [if_neg h3, if_neg (by omega)]
theorem rvAt_done {l : List Int} {k i : Nat} (hk : ¬(k : Int) < (l.length : Int) - 1 - k) (hi : i < l.length) : rvAt l k i = l.getD (l.length - 1 - i) 0 := by
 unfold rvAt
 by_cases h3 : i < k ∨ l.length ≤ i + k
 ·rw [if_pos h3]
 ·rw [if_neg h3, show l.length - 1 - i = i by omega]
set_option maxHeartbeats 4000000 in
theorem revK_any (base : Nat) (A : Option Addr) (n c : Nat) (l : List Int) (w : World) (hn : l.length ≤ 10000) (h : OwnK .u64 25 w base (.slice A n c) l) :
  Calls Tryd.prog 66 #[.slice A n c] w fun e w' => (∃ v, e = .returned v) ∧ OwnK .u64 25 w' base (.slice A n c) l.reverse ∧ ∃ row, w.grownBy w' row ∧ ∀ r, row = some r → base ≤ r := by
 obtain ⟨hl, hform⟩ := h; rcases hform with ⟨hv, h0⟩ | ⟨g, cap, cur, hv, hg, hh, hnc, hcm, hcs, htake⟩
 ·injection hv with hA hn0 hc0
  subst hA; subst hn0; subst hc0; obtain rfl : l = [] := List.eq_nil_of_length_eq_zero h0
  go_enter Tryd.func66, Tryd.ntmps66
  go_wp2
  go_loopw [2, 3] (fun i j wr => i = .int .i64 0 ∧ j = .int .i64 (-1) ∧ wr = w) (fun _ _ _ => 0)
  case atStart => exact ⟨rfl, rfl, rfl⟩
  case round =>
   obtain ⟨rfl, rfl, rfl⟩ := hrel
   go_wp2
   go_end0
   exact ⟨⟨_, rfl⟩, World.ownsRow_nil _ _ _ _, none, grown_self _ _, fun r e => by cases e⟩
 ·injection hv with hA hn0 hc0
  subst hA; subst hn0; subst hc0; have hB : Blk w g 25 cur := hh; have hst : ∀ i (hi : i < l.length), cur[i]? = some (.int .u64 (rvAt l 0 i)) := fun i hi => by
   have h1 : (cur.toList.take (l.length * 1))[i]? = (l.map (Value.int .u64))[i]? := by rw [htake]
   rw [List.getElem?_take_of_lt (by omega), Array.getElem?_toList, List.getElem?_map, List.getElem?_eq_getElem hi] at h1; rw [h1, show rvAt l 0 i = l[i] by unfold rvAt; rw [if_neg (by omega), List.getD_eq_getElem?_getD, List.getElem?_eq_getElem hi]; rfl]; rfl
  have HST := hide hst; clear hst
  go_enter Tryd.func66, Tryd.ntmps66
  go_wp2
  go_loopw [2, 3] (fun i j wr => ∃ (k : Nat) (cs : Array Value), k ≤ l.length ∧ i = .int .i64 k ∧ j = .int .i64 ((l.length : Int) - 1 - k) ∧ Blk wr g 25 cs ∧ cs.size = c * 1 ∧ (∀ i, i < l.length → cs[i]? = some (.int .u64 (rvAt l k i))) ∧ w.grownBy wr (some g)) (fun i _ _ => l.length - (intOf i).toNat)
  case atStart => exact ⟨0, cur, Nat.zero_le _, rfl, by simp, hB, hcs, HST.out, grown_self _ _⟩
  case round =>
   obtain ⟨k, cs, hk, rfl, rfl, hb, hsz, hat, hgr⟩ := hrel
   by_cases hlt : (k : Int) < (l.length : Int) - 1 - k
   ·have hkl : k < l.length := by omega
    have hml : l.length - 1 - k < l.length := by omega
    have d1 : decide ((k : Int) < (l.length : Int) - 1 - k) = true := by simpa using hlt
    have hm0 : (0 : Int) ≤ (l.length : Int) - 1 - (k : Int) := by omega
    have hm1 : (l.length : Int) - 1 - (k : Int) < l.length := by omega
    have hm2 : (k : Int) ≤ (l.length : Int) - 1 := by omega
    have ck := hat k hkl; have cm := hat _ hml; obtain ⟨x, hx⟩ : ∃ x, x = rvAt l k k := ⟨_, rfl⟩; obtain ⟨y, hy⟩ : ∃ x, x = rvAt l k (l.length - 1 - k) := ⟨_, rfl⟩; rw [← hx] at ck; rw [← hy] at cm; have a0 := (hb.cell k).trans ck; have b0 := (hb.cell (l.length - 1 - k)).trans cm; have f0 := hb.frozen k; have g0 := hb.frozen (l.length - 1 - k); have HB := hide hb; have HA := hide hat; have HX := hide hx; have HY := hide hy; have HL := hide hlt; clear hat hx hy ck cm htake hb
    go_wp2_with fail
    go_region_law (fail)
    all_goals
     go_wp2
     go_roundw
     case rel =>
      refine ⟨k + 1, (cs.setIfInBounds k (.int .u64 y)).setIfInBounds (l.length - 1 - k) (.int .u64 x), by omega, by go_num, by simp; omega, ?_, by simpa using hsz, fun i hi => ?_, ?_⟩
      ·with_reducible exact ((HB.out.set_ k (.int .u64 y)).set_ (l.length - 1 - k) (.int .u64 x)).drew
      ·rw [rvAt_step HL.out hi]
       by_cases h1 : i = l.length - 1 - k
       ·rw [if_pos h1, h1, ← HX.out, Array.getElem?_setIfInBounds_self_of_lt (by simp; omega)]
       ·rw [if_neg h1, Array.getElem?_setIfInBounds_ne (by omega)]
        by_cases h2 : i = k
        ·rw [if_pos h2, h2, ← HY.out, Array.getElem?_setIfInBounds_self_of_lt (by omega)]
        ·rw [if_neg h2, Array.getElem?_setIfInBounds_ne (by omega)]; exact HA.out i hi
      ·with_reducible exact grown_drew (grown_set (grown_set hgr _ _) _ _)
     case measure => simp [intOf]; omega
   ·have d1 : decide ((k : Int) < (l.length : Int) - 1 - k) = false := by simpa using hlt
    have HA := hide hat; have HB := hide hb; have HN := hide hlt; clear hat hb hlt
    go_wp2
    go_end0
    refine ⟨⟨_, rfl⟩, ⟨by simp, .inr ⟨g, c, cs, by rw [List.length_reverse], hg, HB.out, by rw [List.length_reverse]; exact hnc, hcm, hsz, ?_⟩⟩, some g, hgr, fun r e => by cases e; exact hg⟩; rw [List.length_reverse, Nat.mul_one]; refine List.ext_getElem? fun i => ?_
    by_cases hi : i < l.length
    ·rw [List.getElem?_take_of_lt hi, Array.getElem?_toList, HA.out i hi, rvAt_done (Int.not_lt.2 HN.out) hi, List.getElem?_map, List.getElem?_reverse hi, List.getD_eq_getElem?_getD, List.getElem?_eq_getElem (by omega)]; rfl
    ·rw [List.getElem?_eq_none (by simp; omega), List.getElem?_eq_none (by simp; omega)]
theorem infoU : (Tryd.prog.info? 25).map (fun i => (i.zero, i.size, i.bytes)) = some (some (.int .u64 0), 1, 8) := by kernel_rfl
set_option maxHeartbeats 1000000 in
theorem cloneK_any (A : Option Addr) (c : Nat) (l : List Int) (w : World) (hn : l.length ≤ 100000) (h : KS .u64 w A l) :
  Calls Tryd.prog 68 #[.slice A l.length c] w fun e w' => ∃ v, e = .returned v ∧ OwnK .u64 25 w' w.heap.size v l ∧ Below w.heap.size w w' := by
 obtain ⟨i0, hi, hz0, hz1, hz2⟩ := info_parts infoU; have hne := fun w' => Lib.run_eql_slice_nil (P := Tryd.prog) w' 34 25 A l.length c 0 0 Tryd.underlying34
 cases hA : A.isNone
 ·rw [hA] at hne
  go_enter Tryd.func68, Tryd.ntmps68
  go_wp2_with (at_builtin; refine wpList_append_rd _ rfl _ _ 34 rfl w.heap.size 25 i0 _ 1 8 Tryd.underlying34 hi hz0 hz1 hz2 rfl (by decide) _ 0 [] rfl (World.ownsRow_made w #[] 0 (Nat.le_refl _) (by simp [maxLen]) rfl) A l.length c (l.map (Value.int .u64)) rfl (by simp) (h.alloc _) (kone l) ?_ ?_ ?_ ?_)
  ·simp only [maxLen]; omega
  ·omega
  ·simp
  ·intro v1 w1 ho hg _
   go_wp2
   go_ret
   refine ⟨v1, rfl, by simpa [OwnK] using ho, ((Below.refl _ _).alloc (Nat.le_refl _) _).grown hg (by simp) (fun k hk => by simp [Value.ownBlock] at hk; omega)⟩
 ·rw [hA] at hne; obtain rfl : A = none := by simpa using hA
  have hl : l = [] := KS.nil_of h; subst hl; simp only [List.length_nil] at hne
  go_enter Tryd.func68, Tryd.ntmps68
  go_wp2
  go_ret
  exact ⟨.slice none 0 0, rfl, OwnK.nil, Below.refl _ _⟩
end Go.Proofs.YtmfjcachghboiaaDoor
namespace Go.Proofs.YtmfjcachghboiaaDoor
open Go.RowKit
set_option maxRecDepth 100000 in
theorem run_overlaps {P : Program} (w : World) (t u : TypeId) (rs : Array TypeId) (elem : TypeId) (size : Nat) (hu : P.underlying t = some (.slice elem)) (hs : (P.info? elem).map (·.size) = some size)
  (g1 g2 o1 o2 n1 n2 c1 c2 : Nat) (t1 t2 : TypeId) (cs1 cs2 : Array Value) (h1 : Blk w g1 t1 cs1) (h2 : Blk w g2 t2 cs2) (hne : g1 ≠ g2) :
  (Extern.SlicesOverlaps.overlaps #[t, u] rs #[.slice (some ⟨g1, o1, none⟩) n1 c1, .slice (some ⟨g2, o2, none⟩) n2 c2]).run P w = .ok (.bool false) w := by
 have f1 := fun o => h1.frozen o
 have f2 := fun o => h2.frozen o
 have s1 : w.shape? g1 = some (t1, cs1.size) := by unfold Blk at h1; simp [World.shape?, h1]
 have s2 : w.shape? g2 = some (t2, cs2.size) := by unfold Blk at h2; simp [World.shape?, h2]
 cases hq : P.info? elem with
 | none => simp [hq] at hs
 | some i =>
  conv => lhs; arg 2; whnf
  simp [Sem.run_bind', hu, sizeOf, typeInfo, hq, hne, f1, f2, s1, s2, noView, viewAt, mayBeOne, stringish, shape, frozen, Sem.run]
set_option maxRecDepth 100000 in
theorem ov_call (args : Array Value) (w : World) : (callFunc 92 args).run Tryd.prog w =
  ((Extern.SlicesOverlaps.overlaps #[34, 34] #[4] args).run Tryd.prog w).andThen fun v w' => .ok (.value v) w' :=
 run_callFunc_extern Tryd.func92 (by kernel_rfl) (by kernel_rfl) (by kernel_rfl) (by kernel_rfl) args w
set_option maxRecDepth 100000 in
theorem OwnK.rd {k : IntKind} {e : TypeId} {w : World} {base n c : Nat} {A : Option Addr} {l : List Int} (h : OwnK k e w base (.slice A n c) l) : KS k w A l := by
 obtain ⟨A', c', hv, _, _, hk⟩ := h.form
 injection hv with e1 e2 e3
 subst e1; exact hk
set_option maxRecDepth 100000 in
set_option maxHeartbeats 1000000 in
theorem insertK_end (A : Option Addr) (c : Nat) (x : Int) (g base : Nat) (w : World) (ho : OwnK .u64 25 w base (.slice A 0 c) []) (hbase : base ≤ w.heap.size)
  (hx : Blk w g 25 #[.int .u64 x]) :
  Calls Tryd.prog 67 #[.slice A 0 c, .int .i64 0, .slice (some ⟨g, 0, none⟩) 1 1] w
   fun e w' => ∃ v, e = .returned v ∧ OwnK .u64 25 w' base v [x] ∧ Below base w w' := by
 obtain ⟨i0, hi, hz0, hz1, hz2⟩ := info_parts infoU; obtain ⟨_, _, hv, hlc, hcm, _⟩ := ho.form
 injection hv with e1 e2 e3
 subst e1 e3; clear e2; unfold maxLen at hcm; have HO := hide ho; have HX := hide (show KS .u64 w (some ⟨g, 0, none⟩) [x] from Rd.of_blk hx); clear ho hx; have hcase : A = none ∧ c = 0 ∨ ∃ g0, A = some ⟨g0, 0, none⟩ := by
  rcases HO.out.2 with ⟨hv, _⟩ | ⟨g0, cap, cur, hv, _⟩
  ·injection hv with e1 e2 e3; exact .inl ⟨e1, e3⟩
  ·injection hv with e1 e2 e3; exact .inr ⟨g0, e1⟩
 have fin : ∀ v1 w1, World.ownsRow w1 base 25 1 v1 (0 + 1) ([] ++ [.int .u64 x]) → w.grownBy w1 (Value.slice A 0 c).ownBlock → OwnK .u64 25 w1 base v1 [x] ∧ Below base w w1 := fun v1 w1 h1 hg =>
  ⟨by simpa [OwnK] using h1, (Below.refl _ _).grown hg hbase (fun k hk => (HO.out.lt k (by cases A <;> (simp [Value.ownBlock] at hk ⊢; try exact hk))).1)⟩
 have FIN := hide fin; clear fin; rcases hcase with ⟨rfl, rfl⟩ | ⟨g0, rfl⟩
 ·go_enter Tryd.func67, Tryd.ntmps67
  go_wp2_with (at_builtin; refine wpList_append_rd _ rfl _ _ 34 rfl base 25 i0 _ 1 8 Tryd.underlying34 hi hz0 hz1 hz2 rfl (by decide) _ 0 [] rfl HO.out (some ⟨g, 0, none⟩) 1 1 [.int .u64 x] rfl rfl HX.out (kone [x]) (by unfold maxLen; omega) (by omega) hbase ?_; intro v1 w1 h1 hg _; have H1 := hide (FIN.out v1 w1 h1 hg); clear h1 hg)
  go_ret
  exact ⟨_, rfl, H1.out⟩
 ·cases c with
  | zero =>
   go_enter Tryd.func67, Tryd.ntmps67
   go_wp2_with (at_builtin; refine wpList_append_rd _ rfl _ _ 34 rfl base 25 i0 _ 1 8 Tryd.underlying34 hi hz0 hz1 hz2 rfl (by decide) _ 0 [] rfl HO.out (some ⟨g, 0, none⟩) 1 1 [.int .u64 x] rfl rfl HX.out (kone [x]) (by unfold maxLen; omega) (by omega) hbase ?_; intro v1 w1 h1 hg _; have H1 := hide (FIN.out v1 w1 h1 hg); clear h1 hg)
   go_ret
   exact ⟨_, rfl, H1.out⟩
  | succ c =>
   have p0 : ¬ c + 1 = 0 := by omega
   go_enter Tryd.func67, Tryd.ntmps67
   go_wp2_with (at_builtin; refine wpList_append_rd _ rfl _ _ 34 rfl base 25 i0 _ 1 8 Tryd.underlying34 hi hz0 hz1 hz2 rfl (by decide) _ 0 [] rfl HO.out (some ⟨g, 0, none⟩) 1 1 [.int .u64 x] rfl rfl HX.out (kone [x]) (by unfold maxLen; omega) (by omega) hbase ?_; intro v1 w1 h1 hg _; have H1 := hide (FIN.out v1 w1 h1 hg); clear h1 hg)
   go_ret
   exact ⟨_, rfl, H1.out⟩
set_option maxRecDepth 100000 in
set_option maxHeartbeats 2000000 in
theorem insertK_grow (A : Option Addr) (l : List Int) (x : Int) (g base : Nat) (w : World) (ho : OwnK .u64 25 w base (.slice A l.length l.length) l) (hbase : base ≤ w.heap.size)
  (hil : 0 < l.length) (hl : l.length < 100000) (hx : Blk w g 25 #[.int .u64 x]) :
  Calls Tryd.prog 67 #[.slice A l.length l.length, .int .i64 0, .slice (some ⟨g, 0, none⟩) 1 1] w
   fun e w' => ∃ v, e = .returned v ∧ OwnK .u64 25 w' base v (x :: l) ∧ Below base w w' := by
 obtain ⟨i0, hi, hz0, hz1, hz2⟩ := info_parts infoU; have hne : ((0 : Int) == (l.length : Int)) = false := by simp; omega
 have hw1 : IntKind.i64.wrap 1 = 1 := IntWalk.i64_in _ (by omega); have hw3 : (1 : Int) ≤ (l.length : Int) + 1 := by omega
 have hw4 : (0 : Int) ≤ (l.length : Int) + 1 := by omega
 have hnl : ¬ l.length = 0 := by omega
 obtain ⟨g0, rfl, hg0⟩ : ∃ g0, A = some ⟨g0, 0, none⟩ ∧ base ≤ g0 := by
  rcases ho.2 with ⟨_, h⟩ | ⟨g0, _, _, h, hb, _⟩
  ·omega
  ·injection h with h _ _; exact ⟨g0, h, hb⟩
 have HS := hide ho.rd; have HX := hide (show KS .u64 w (some ⟨g, 0, none⟩) [x] from Rd.of_blk hx); clear ho hx
 go_enter Tryd.func67, Tryd.ntmps67
 go_upto_region 11 with (first
  | (at_builtin; refine wpList_append_zeros rfl _ _ 34 3 rfl 25 .i64 i0 _ 1 8 Tryd.underlying34 Tryd.underlying3 hi hz0 hz1 hz2 rfl (some ⟨g0, 0, none⟩) 0 l.length (l.length + 1) ((l.length : Int) + 1) rfl rfl (by omega) [] rfl (Rd.nil _ _) (l.length + 1) (by omega) (by omega) (by omega) (by omega) (by omega) (by omega) ?_; intro cells cap w1 k1 k2 k3 k4 k5 k6 k7; have hci : ¬ cap = 0 := (by omega); have hci1 : ¬ cap = 1 := (by omega); have HK := hide k3; have HK7 := hide k7; have K5 := hide k5; have K6 := hide k6; clear k3 k4 k5 k6 k7)
  | (with_reducible refine wpList_copyN rfl (.tmp 43) (.tmp 44) 34 34 rfl 25 1 Tryd.underlying34 (by kernel_rfl) _ _ _ _ _ _ rfl rfl w.heap.size 0 cells 25 K5.out [.int .u64 x] ?_ ?_ ?_ ?_ ?_ ?_))
 ·simp only [List.length_cons, List.length_nil]; rw [show Nat.min 1 (l.length + 1) = 1 from Nat.min_eq_left (by omega)]
 ·exact HX.out.below (Below.of_grown K6.out) (Nat.le_refl _)
 ·rw [HK.out]; simp only [List.length_cons, List.length_nil]; omega
 ·exact kone [x]
 intro w2 q1 q2 q3; have HQ3 := hide q3; have HQ1 := hide q1; have HQ2 := hide q2; clear q1 q2 q3
 go_upto_region 11 with fail
 have b2 : Below w.heap.size w w2 := (Below.of_grown K6.out).trans ((Below.refl _ _).grown HQ2.out (by have := HK7.out; omega) (fun k hk => by cases hk; exact Nat.le_refl _)); have HB2 := hide b2; clear b2; have HC := hide (show cells.toList.length = cap by rw [Array.length_toList, HK.out, Nat.mul_one]); have HZ := hide (show cells.size = cap by rw [HK.out, Nat.mul_one]); have HS1 := hide (show (splice cells.toList 0 [.int .u64 x]).length = cap by rw [length_splice _ _ _ (by have := HC.out; have := HZ.out; simp; omega), HC.out]); have F1 := hide (show (l.map (Value.int .u64)).length = Nat.min l.length l.length * 1 by simp); have F2 := hide (show Rd w2.drew (some ⟨g0, 0, none⟩) (l.map (Value.int .u64)) from Rd.below (HS.out.then_ HB2.out) (Below.refl _ _).drew (Nat.le_refl _)); have F3 := hide (show 1 + (l.map (Value.int .u64)).length ≤ (splice cells.toList 0 [.int .u64 x]).toArray.size by rw [List.size_toArray, HS1.out, List.length_map]; omega)
 go_region_held3 (fun _ => True) (trivial) ((refine step_copyN rfl (.tmp 50) (.tmp 53) 34 34 rfl 25 1 Tryd.underlying34 (by kernel_rfl) _ _ _ _ _ _ rfl rfl w.heap.size 1 (splice cells.toList 0 [.int .u64 x]).toArray 25 HQ1.out.drew (l.map (Value.int .u64)) F1.out (fun _ => by simp) F2.out F3.out (kone _) ?_; intro w3 r1 r2 r3))
 go_wp2
 go_ret
 have b3 : Below w.heap.size w w3 := HB2.out.drew.trans ((Below.refl _ _).grown r2 HB2.out.size (fun k hk => by cases hk; exact Nat.le_refl _)); refine ⟨_, rfl, ⟨by simp, .inr ⟨w.heap.size, cap, _, rfl, hbase, r1, by simpa using k1, k2, ?_, ?_⟩⟩, b3.mono hbase⟩
 ·rw [List.size_toArray, length_splice _ _ _ (by show 1 + (l.map (Value.int .u64)).length ≤ (splice cells.toList 0 [.int .u64 x]).length; rw [HS1.out, List.length_map]; omega)]
  show (splice cells.toList 0 [.int .u64 x]).length = cap * 1
  rw [HS1.out, Nat.mul_one]
 ·have := splice_two (C := cells.toList) (P := []) (X := [.int .u64 x]) (R := l.map (Value.int .u64)) (p := 0) (m := 1) rfl rfl rfl (by have := HC.out; have := HZ.out; simp; omega); simp only [Nat.zero_add, List.length_map, List.nil_append] at this; rw [List.length_cons, Nat.mul_one, Nat.add_comm l.length 1]; exact this
set_option maxRecDepth 100000 in
set_option maxHeartbeats 2000000 in
theorem insertK_room (A : Option Addr) (l : List Int) (c : Nat) (x : Int) (g base : Nat) (w : World) (ho : OwnK .u64 25 w base (.slice A l.length c) l) (hbase : base ≤ w.heap.size)
  (hil : 0 < l.length) (hl : l.length < 100000) (hc : l.length + 1 ≤ c) (hx : Blk w g 25 #[.int .u64 x]) (hgo : ∀ a, A = some a → a.block ≠ g) :
  Calls Tryd.prog 67 #[.slice A l.length c, .int .i64 0, .slice (some ⟨g, 0, none⟩) 1 1] w
   fun e w' => ∃ v, e = .returned v ∧ OwnK .u64 25 w' base v (x :: l) ∧ Below base w w' := by
 have hne : ((0 : Int) == (l.length : Int)) = false := by simp; omega
 have hw1 : IntKind.i64.wrap 1 = 1 := IntWalk.i64_in _ (by omega); have hw3 : (1 : Int) ≤ (l.length : Int) + 1 := by omega
 have hw4 : (0 : Int) ≤ (l.length : Int) + 1 := by omega
 obtain ⟨g0, cur, rfl, hg0, hblk, hcm, hcs, htake⟩ : ∃ g0 cur, A = some ⟨g0, 0, none⟩ ∧ base ≤ g0 ∧ Blk w g0 25 cur ∧ c ≤ maxLen ∧ cur.size = c * 1 ∧ cur.toList.take (l.length * 1) = l.map (Value.int .u64) := by
  rcases ho.2 with ⟨_, h⟩ | ⟨g0, cap, cur, h, hb, hh, hnc, hcm, hcs, ht⟩
  ·omega
  ·injection h with h1 _ h3; subst h3; exact ⟨g0, cur, h1, hb, hh, hcm, hcs, ht⟩
 have hgg : g0 ≠ g := fun e => hgo _ rfl e
 have ov := fun (n : Nat) (m o : Nat) => (ov_call #[.slice (some ⟨g, 0, none⟩) 1 1, .slice (some ⟨g0, o, none⟩) n m] w).trans (by rw [run_overlaps (P := Tryd.prog) w 34 34 #[4] 25 1 Tryd.underlying34 (by kernel_rfl) g g0 0 o 1 n 1 m _ _ _ _ hx hblk (Ne.symm hgg)])
 unfold maxLen at hcm; have hci : ¬ c = 0 := by omega
 have hci1 : ¬ c = 1 := by omega
 have HS := hide ho.rd; have HX := hide hx; have HBK := hide hblk; clear ho hx hgo
 go_enter Tryd.func67, Tryd.ntmps67
 have HT := hide htake; have HC := hide (show cur.toList.length = c by rw [Array.length_toList, hcs, Nat.mul_one]); have HZ := hide (show cur.size = c by rw [hcs, Nat.mul_one]); clear htake hcs hblk
 go_upto_region 15 with fail
 have F1 := hide (show (l.map (Value.int .u64)).length = Nat.min l.length l.length * 1 by simp); have F2 := hide (show Rd w.drew (some ⟨g0, 0, none⟩) (l.map (Value.int .u64)) from Rd.below HS.out (Below.refl _ _).drew (Nat.le_refl _)); have F3 := hide (show 1 + (l.map (Value.int .u64)).length ≤ cur.size by rw [← Array.length_toList, HC.out, List.length_map]; omega)
 go_region_held3 (fun _ => True) (trivial) ((refine step_copyN rfl (.tmp 73) (.tmp 76) 34 34 rfl 25 1 Tryd.underlying34 (by kernel_rfl) _ _ _ _ _ _ rfl rfl g0 1 cur 25 HBK.out.drew (l.map (Value.int .u64)) (by first | exact F1.out | (simp; done) | (simp [Nat.min_def]; done) | (simp [Nat.min_def]; omega)) (fun _ => by simp) F2.out F3.out (kone _) ?_; intro w3 r1 r2 r3))
 have hxw : Blk w3 g 25 #[.int .u64 x] := (r2.block g (by simpa using HX.out.lt) (fun e => hgg (by injection e with e; exact e.symm))).trans HX.out; have R3 := hide r3; have R2 := hide r2; have R1 := hide r1; have HXW := hide (show KS .u64 w3 (some ⟨g, 0, none⟩) [x] from Rd.of_blk hxw); have HL1 := hide (show (splice cur.toList 1 (l.map (Value.int .u64))).length = c by rw [length_splice _ _ _ (by have := HC.out; have := HZ.out; simp; omega), HC.out]); clear r1 r2 r3 hxw ov
 go_upto_region 17 with (with_reducible refine wpList_copyN rfl (.tmp 80) (.tmp 81) 34 34 rfl 25 1 Tryd.underlying34 (by kernel_rfl) _ _ _ _ _ _ rfl rfl g0 0 _ 25 R1.out [.int .u64 x] ?_ ?_ ?_ ?_ ?_ ?_)
 ·simp only [List.length_cons, List.length_nil]; rw [show Nat.min 1 (l.length + 1) = 1 from Nat.min_eq_left (by omega)]
 ·exact HXW.out
 ·rw [List.size_toArray, HL1.out]; simp only [List.length_cons, List.length_nil]; omega
 ·exact kone [x]
 intro w4 q1 q2 q3
 go_wp2
 go_ret
 have b4 : Below base w w4 := (((Below.refl base w).drew).grown R2.out (by simpa using hbase) (fun k hk => by cases hk; exact hg0)).grown q2 (by rw [R3.out]; simpa using hbase) (fun k hk => by cases hk; exact hg0); refine ⟨_, rfl, ⟨by simp, .inr ⟨g0, c, _, rfl, hg0, q1, by simpa using hc, by unfold maxLen; omega, ?_, ?_⟩⟩, b4⟩
 ·rw [List.size_toArray, length_splice _ _ _ (by show 0 + 1 ≤ (splice cur.toList 1 (l.map (Value.int .u64))).length; rw [HL1.out]; omega)]; rw [Nat.mul_one]; exact HL1.out
 ·have := splice_two' (C := cur.toList) (P := []) (X := [.int .u64 x]) (R := l.map (Value.int .u64)) (p := 0) (m := 1) rfl rfl rfl (by have := HC.out; have := HZ.out; simp; omega); simp only [Nat.zero_add, List.length_map, List.nil_append] at this; rw [List.length_cons, Nat.mul_one, Nat.add_comm l.length 1]; exact this
set_option maxRecDepth 100000 in
theorem insertK_any (A : Option Addr) (c : Nat) (l : List Int) (x : Int) (g base : Nat) (w : World) (ho : OwnK .u64 25 w base (.slice A l.length c) l) (hbase : base ≤ w.heap.size)
  (hl : l.length < 100000) (hx : Blk w g 25 #[.int .u64 x]) (hgo : ∀ a, A = some a → a.block ≠ g) :
  Calls Tryd.prog 67 #[.slice A l.length c, .int .i64 0, .slice (some ⟨g, 0, none⟩) 1 1] w
   fun e w' => ∃ v, e = .returned v ∧ OwnK .u64 25 w' base v (x :: l) ∧ Below base w w' := by
 by_cases h0 : 0 < l.length
 ·obtain ⟨_, c', hv, hlc, _, _⟩ := ho.form
  injection hv with e1 e2 e3
  subst e1 e3
  by_cases hc : l.length + 1 ≤ c
  ·exact insertK_room A l c x g base w ho hbase h0 hl hc hx hgo
  ·obtain rfl : c = l.length := by omega
   exact insertK_grow A l x g base w ho hbase h0 hl hx
 ·obtain rfl : l = [] := List.eq_nil_of_length_eq_zero (by omega); exact insertK_end A c x g base w ho hbase hx
end Go.Proofs.YtmfjcachghboiaaDoor
namespace Go.Proofs.YtmfjcachghboiaaDoor
open Go.RowKit
def lenV : Value → Nat | .slice _ n _ => n | _ => 0
theorem OwnK.weak {k : IntKind} {e : TypeId} {w : World} {b1 b2 : Nat} {v : Value} {l : List Int} (h : OwnK k e w b1 v l) (hb : b2 ≤ b1) : OwnK k e w b2 v l := by
 refine ⟨h.1, ?_⟩; rcases h.2 with h2 | ⟨g, cap, cur, hv, hg, r⟩
 ·exact .inl h2
 ·exact .inr ⟨g, cap, cur, hv, by omega, r⟩
def inclF (l : List Int) (i : Nat) : List Int := inclT leafF pairF l i
theorem inclF_left {l : List Int} {i : Nat} (h : 2 ≤ l.length) (hi : i < hf l.length) : inclF l i = inclF (l.take (hf l.length)) i ++ [rootF (l.drop (hf l.length))] := inclT_left h hi
theorem inclF_right {l : List Int} {i : Nat} (h : 2 ≤ l.length) (hi : ¬i < hf l.length) : inclF l i = inclF (l.drop (hf l.length)) (i - hf l.length) ++ [rootF (l.take (hf l.length))] := inclT_right h hi
def incS (l : List Int) (i : Int) : List Int × Int := if checkS l ≠ 0 then ([], checkS l) else if i < 0 ∨ (l.length : Int) ≤ i then ([], 1) else (inclF l i.toNat, 0)
set_option maxHeartbeats 4000000 in
theorem Include_anyF (A : Option Addr) (c : Nat) (l : List Int) (i : Int) (w : World) (hc : l.length ≤ c) (h : KS .u64 w A l) :
  Calls Tryd.prog 52 #[.slice A l.length c, .int .i64 i] w fun e w' => ∃ A' c', e = .returned (.tuple #[.slice A' (incS l i).1.length c', .int .i64 (incS l i).2]) ∧ (incS l i).1.length ≤ c' ∧ c' ≤ maxLen ∧ (KS .u64 w' A' (incS l i).1 ∧ FrA w A') ∧ Below w.heap.size w w' := by
 have HC := hide fun W => check_any A c l W
 unfold incS
 by_cases hk : checkS l = 0
 ·obtain ⟨h1, h2⟩ := checkS_ok hk; rw [if_neg (by simpa using hk)]; rw [hk] at HC; clear hk
  by_cases hbad : i < 0 ∨ (l.length : Int) ≤ i
  ·rw [if_pos hbad]; have hcase : decide (i < 0) = true ∨ decide (i < 0) = false ∧ decide ((l.length : Int) ≤ i) = true := by
    simp only [decide_eq_true_eq, decide_eq_false_iff_not]; omega
   clear hbad; rcases hcase with q1 | ⟨q1, q2⟩
   all_goals
    go_enter Tryd.func52, Tryd.ntmps52
    go_wp2_with (go_at_call 63; refine (HC.out _).mono ?_; rintro e w2 ⟨rfl, rfl⟩)
    go_ret2
    exact ⟨none, 0, rfl, Nat.le_refl _, by simp [maxLen], ⟨Rd.nil _ _, fun _ _ h => by cases h⟩, Below.refl _ _⟩
  ·rw [if_neg hbad]; obtain ⟨j, rfl⟩ : ∃ j : Nat, i = j := ⟨i.toNat, by omega⟩; have q1 : decide ((j : Int) < 0) = false := decide_eq_false (by omega); have q2 : decide ((l.length : Int) ≤ j) = false := decide_eq_false (by omega); have q3 : decide (l.length ≤ j) = false := decide_eq_false (by omega); obtain ⟨b, o, rfl, hbl, hcell⟩ := h.at_ (i := 0) (by omega); have hjl : j < l.length := by omega
   obtain ⟨res, hres⟩ : ∃ r, r = inclF l j := ⟨_, rfl⟩; obtain ⟨i0, hi, hz0, hz1, hz2⟩ := info_parts infoU; rw [Int.toNat_natCast, ← hres]; have HRES := hide hres; have K := hide h; clear hbad hcell h hres
   go_enter Tryd.func52, Tryd.ntmps52
   go_wp2_with (go_at_call 63; refine (HC.out _).mono ?_; rintro e w2 ⟨rfl, rfl⟩)
   go_loopw [0, 1, 7, 8, 9] (fun u0 u1 u7 _ _ wr => ∃ (b' o' c' : Nat) (l' : List Int) (i' : Nat) (path : List Int), u0 = .slice (some ⟨b', o', none⟩) l'.length c' ∧ l'.length ≤ c' ∧ 1 ≤ l'.length ∧ u1 = .int .i64 i' ∧ i' < l'.length ∧ KS .u64 w (some ⟨b', o', none⟩) l' ∧ OwnK .u64 25 wr w.heap.size u7 path ∧ path.length + l'.length ≤ l.length ∧ inclF l' i' ++ path.reverse = res ∧ Below w.heap.size w wr) (fun u0 _ _ _ _ _ => lenV u0)
   case atStart => exact ⟨b, o, c, l, j, [], rfl, hc, h1, rfl, hjl, K.out, OwnK.nil, by simp, by simp [HRES.out], Below.refl _ _⟩
   case round =>
    clear K HRES hbl hc HC
    rename World => wo
    obtain ⟨b', o', c', l', i', path, rfl, hlc, hl1, rfl, hil, hks, ho, hpl, hpath, hb⟩ := hrel
    by_cases hn : 2 ≤ l'.length
    ·have d1 : decide (1 < (l'.length : Int)) = true := decide_eq_true (by omega); have d2 : decide (1 < l'.length) = true := decide_eq_true (by omega); obtain ⟨s1, s2, s3⟩ := hf_spec hn; have PP := hide fun W => parts_any b' o' c' l'.length W hn (by omega) hlc
     have K1 := hide (KS.pre hks (hf l'.length)); have K2 := hide (KS.shift hks (n := hf l'.length) (by omega)); have HB := hide hb; have HO := hide ho; have HL := hide (@inclF_left l' i' hn); have HR := hide (@inclF_right l' i' hn); have HP := hide hpath; have R1 := hide fun W (s : KS .u64 W (some ⟨b', o', none⟩) (l'.take (hf l'.length))) => root_any (hf l'.length) (some ⟨b', o', none⟩) (hf l'.length) _ W (by simp; omega) s1 (by omega) (Nat.le_refl _) s
     have R2 := hide fun W (s : KS .u64 W (some ⟨b', o' + hf l'.length, none⟩) (l'.drop (hf l'.length))) => root_any (l'.length - hf l'.length) (some ⟨b', o' + hf l'.length, none⟩) (l'.length - hf l'.length) _ W (by simp) (by omega) (by omega) (Nat.le_refl _) s
     clear hks hb ho hpath hlc; obtain ⟨k, hk⟩ : ∃ k, k = hf l'.length := ⟨_, rfl⟩; rw [← hk] at PP s1 s2 s3 K1 K2 HL HR R1 R2; clear hk
     by_cases hik : i' < k
     ·have d3 : decide ((i' : Int) < (k : Int)) = true := decide_eq_true (by omega); have d4 : decide (i' < k) = true := decide_eq_true (by omega); have HP2 := hide (show inclF (l'.take k) i' ++ (path ++ [rootF (l'.drop k)]).reverse = res by rw [← HP.out, HL.out hik]; simp); clear HL HR R1 HP
      go_wp2_with (first
       | (go_at_call 64; refine (PP.out _).mono ?_; rintro e w2 ⟨rfl, hb⟩; have HB := hide (HB.out.trans (hb.mono HB.out.size)); have HO := hide (HO.out.below hb); clear hb)
       | (go_at_call 65; with_reducible refine (R2.out _ (K2.out.then_ HB.out)).mono ?_; rintro e w3 ⟨rfl, hb⟩; have HB := hide (HB.out.trans (hb.mono HB.out.size)); have HO := hide (HO.out.below hb); clear hb)
       | (at_builtin; refine wpList_append_rd _ rfl _ _ 34 rfl w.heap.size 25 i0 _ 1 8 Tryd.underlying34 hi hz0 hz1 hz2 rfl (by decide) _ _ _ rfl (OwnK.below HO.out ((Below.refl _ _).alloc (Nat.le_refl _) _)) (some ⟨w3.heap.size, 0, none⟩) 1 1 [.int .u64 (rootF (l'.drop k))] rfl rfl (Rd.new_row _ _ _) (by simp [Value.oneCell']) (by simp only [maxLen]; omega) (by omega) (by have := HB.out.size; simp; omega) ?_; intro v' w6 hown' hgrow _; have HB6 := hide ((HB.out.alloc HB.out.size _).grown hgrow (by have := HB.out.size; simp; omega) (fun g hg => (HO.out.lt g hg).1)); have HO6 := hide (OwnK.snoc hown' rfl rfl); clear hown' hgrow))
      go_roundw
      case rel => exact ⟨b', o', k, l'.take k, i', path ++ [rootF (l'.drop k)], by rw [List.length_take, Nat.min_eq_left (by omega)], by simp; omega, by simp; omega, rfl, by rw [List.length_take, Nat.min_eq_left (by omega)]; exact hik, K1.out, HO6.out, by simp; omega, HP2.out, HB6.out⟩
      case measure => simp [lenV]; omega
     ·have d3 : decide ((i' : Int) < (k : Int)) = false := decide_eq_false (by omega); have d4 : decide (i' < k) = false := decide_eq_false (by omega); have HP2 := hide (show inclF (l'.drop k) (i' - k) ++ (path ++ [rootF (l'.take k)]).reverse = res by rw [← HP.out, HR.out hik]; simp); have p1 : (0 : Int) ≤ (i' : Int) - k := by omega
      have p2 : (i' : Int) - k ≤ 10000 := by omega
      have p3 := hide (show ((i' - k : Nat) : Int) = (i' : Int) - k by omega); clear HL HR R2 HP
      go_wp2_with (first
       | (go_at_call 64; refine (PP.out _).mono ?_; rintro e w2 ⟨rfl, hb⟩; have HB := hide (HB.out.trans (hb.mono HB.out.size)); have HO := hide (HO.out.below hb); clear hb)
       | (go_at_call 65; with_reducible refine (R1.out _ (K1.out.then_ HB.out)).mono ?_; rintro e w3 ⟨rfl, hb⟩; have HB := hide (HB.out.trans (hb.mono HB.out.size)); have HO := hide (HO.out.below hb); clear hb)
       | (at_builtin; refine wpList_append_rd _ rfl _ _ 34 rfl w.heap.size 25 i0 _ 1 8 Tryd.underlying34 hi hz0 hz1 hz2 rfl (by decide) _ _ _ rfl (OwnK.below HO.out ((Below.refl _ _).alloc (Nat.le_refl _) _)) (some ⟨w3.heap.size, 0, none⟩) 1 1 [.int .u64 (rootF (l'.take k))] rfl rfl (Rd.new_row _ _ _) (by simp [Value.oneCell']) (by simp only [maxLen]; omega) (by omega) (by have := HB.out.size; simp; omega) ?_; intro v' w6 hown' hgrow _; have HB6 := hide ((HB.out.alloc HB.out.size _).grown hgrow (by have := HB.out.size; simp; omega) (fun g hg => (HO.out.lt g hg).1)); have HO6 := hide (OwnK.snoc hown' rfl rfl); clear hown' hgrow))
      go_roundw
      case rel => exact ⟨b', o' + k, l'.length - k, l'.drop k, i' - k, path ++ [rootF (l'.take k)], by rw [List.length_drop], by simp, by simp; omega, by rw [p3.out], by simp; omega, K2.out, HO6.out, by simp; omega, HP2.out, HB6.out⟩
      case measure => simp [lenV]; omega
    ·have d1 : decide (1 < (l'.length : Int)) = false := decide_eq_false (by omega); have d2 : decide (1 < l'.length) = false := decide_eq_false (by omega); rw [show inclF l' i' = [] from inclT_one hn, List.nil_append] at hpath; subst hpath; obtain ⟨A7, c7, rfl, hl7, hm7, hk7⟩ := ho.form; have REV := hide (fun W (s : OwnK .u64 25 W w.heap.size (.slice A7 path.length c7) path) => revK_any w.heap.size A7 path.length c7 path W (by omega) s); have HO := hide ho; have HB := hide hb; clear hn hk7 ho hb hks
     go_wp2_with (go_at_call 66; refine (REV.out _ HO.out).mono ?_; rintro e w2 ⟨⟨_, rfl⟩, ho2, row, hg2, hr2⟩; have HO := hide ho2; have HB := hide (HB.out.grown hg2 HB.out.size hr2); clear ho2 hg2 hr2)
     go_ret2
     obtain ⟨A8, c8, h8, hl8, hm8, hk8⟩ := HO.out.form
     injection h8 with h8a h8b h8c
     subst h8a h8c; exact ⟨A7, c7, by rw [List.length_reverse]; rfl, hl8, hm8, ⟨hk8, HO.out.fresh⟩, HB.out⟩
 ·rw [if_pos hk]; obtain ⟨x, hx⟩ : ∃ x, x = checkS l := ⟨_, rfl⟩; rw [← hx] at HC hk ⊢; have q : (x != 0) = true := by simp [hk]
  clear hk hx
  go_enter Tryd.func52, Tryd.ntmps52
  go_wp2_with (go_at_call 63; refine (HC.out _).mono ?_; rintro e w2 ⟨rfl, rfl⟩)
  go_ret2
  exact ⟨none, 0, rfl, Nat.le_refl _, by simp [maxLen], ⟨Rd.nil _ _, fun _ _ h => by cases h⟩, Below.refl _ _⟩
end Go.Proofs.YtmfjcachghboiaaDoor
namespace Go.Proofs.YtmfjcachghboiaaDoor
open Go.RowKit
def extF (l : List Int) (m : Nat) (mark : Bool) : List Int := extT leafF pairF l m mark
theorem extF_left {l : List Int} {m : Nat} {mark : Bool} (h : 2 ≤ l.length ∧ m ≠ l.length) (hm : m ≤ hf l.length) : extF l m mark = extF (l.take (hf l.length)) m mark ++ [rootF (l.drop (hf l.length))] := extT_left h hm
theorem extF_right {l : List Int} {m : Nat} {mark : Bool} (h : 2 ≤ l.length ∧ m ≠ l.length) (hm : ¬m ≤ hf l.length) : extF l m mark = extF (l.drop (hf l.length)) (m - hf l.length) false ++ [rootF (l.take (hf l.length))] := extT_right h hm
theorem extF_end {l : List Int} {m : Nat} {mark : Bool} (h : ¬(2 ≤ l.length ∧ m ≠ l.length)) : extF l m mark = if mark = true then [] else [rootF l] := extT_end h
def extS (l : List Int) (m : Int) : List Int × Int := if checkS l ≠ 0 then ([], checkS l) else if m < 1 ∨ (l.length : Int) < m then ([], 1) else (extF l m.toNat true, 0)
set_option maxHeartbeats 4000000 in
theorem Extend_anyF (A : Option Addr) (c : Nat) (l : List Int) (i : Int) (w : World) (hc : l.length ≤ c) (h : KS .u64 w A l) :
  Calls Tryd.prog 34 #[.slice A l.length c, .int .i64 i] w fun e w' => ∃ A' c', e = .returned (.tuple #[.slice A' (extS l i).1.length c', .int .i64 (extS l i).2]) ∧ (extS l i).1.length ≤ c' ∧ c' ≤ maxLen ∧ (KS .u64 w' A' (extS l i).1 ∧ FrA w A') ∧ Below w.heap.size w w' := by
 have HC := hide fun W => check_any A c l W
 unfold extS
 by_cases hk : checkS l = 0
 ·obtain ⟨h1, h2⟩ := checkS_ok hk; rw [if_neg (by simpa using hk)]; rw [hk] at HC; clear hk
  by_cases hbad : i < 1 ∨ (l.length : Int) < i
  ·rw [if_pos hbad]; have hcase : decide (i < 1) = true ∨ decide (i < 1) = false ∧ decide ((l.length : Int) < i) = true := by
    simp only [decide_eq_true_eq, decide_eq_false_iff_not]; omega
   clear hbad; rcases hcase with q1 | ⟨q1, q2⟩
   all_goals
    go_enter Tryd.func34, Tryd.ntmps34
    go_wp2_with (go_at_call 63; refine (HC.out _).mono ?_; rintro e w2 ⟨rfl, rfl⟩)
    go_ret2
    exact ⟨none, 0, rfl, Nat.le_refl _, by simp [maxLen], ⟨Rd.nil _ _, fun _ _ h => by cases h⟩, Below.refl _ _⟩
  ·rw [if_neg hbad]; obtain ⟨j, rfl⟩ : ∃ j : Nat, i = j := ⟨i.toNat, by omega⟩; have q1 : decide ((j : Int) < 1) = false := decide_eq_false (by omega); have q2 : decide ((l.length : Int) < j) = false := decide_eq_false (by omega); have q3 : decide (l.length < j) = false := decide_eq_false (by omega); obtain ⟨b, o, rfl, hbl, hcell⟩ := h.at_ (i := 0) (by omega); have hjl : j ≤ l.length := by omega
   have hj1 : 1 ≤ j := by omega
   obtain ⟨res, hres⟩ : ∃ r, r = extF l j true := ⟨_, rfl⟩; obtain ⟨i0, hi, hz0, hz1, hz2⟩ := info_parts infoU; rw [Int.toNat_natCast, ← hres]; have HRES := hide hres; have K := hide h; clear hbad hcell h hres
   go_enter Tryd.func34, Tryd.ntmps34
   go_wp2_with (go_at_call 63; refine (HC.out _).mono ?_; rintro e w2 ⟨rfl, rfl⟩)
   go_loopw [0, 1, 7, 8, 9, 10] (fun u0 u1 u7 u8 _ _ wr => ∃ (b' o' c' : Nat) (l' : List Int) (i' : Nat) (path : List Int) (mark : Bool), u0 = .slice (some ⟨b', o', none⟩) l'.length c' ∧ l'.length ≤ c' ∧ 1 ≤ l'.length ∧ u1 = .int .i64 i' ∧ 1 ≤ i' ∧ i' ≤ l'.length ∧ u8 = .bool mark ∧ KS .u64 w (some ⟨b', o', none⟩) l' ∧ OwnK .u64 25 wr w.heap.size u7 path ∧ path.length + l'.length ≤ l.length ∧ extF l' i' mark ++ path.reverse = res ∧ Below w.heap.size w wr) (fun u0 _ _ _ _ _ _ => lenV u0)
   case atStart => exact ⟨b, o, c, l, j, [], true, rfl, hc, h1, rfl, hj1, hjl, rfl, K.out, OwnK.nil, by simp, by simp [HRES.out], Below.refl _ _⟩
   case round =>
    clear K HRES hbl hc HC
    rename World => wo
    obtain ⟨b', o', c', l', i', path, mark, rfl, hlc, hl1, rfl, hi1, hil, rfl, hks, ho, hpl, hpath, hb⟩ := hrel
    by_cases hn : i' < l'.length
    ·have d1 : decide ((i' : Int) < (l'.length : Int)) = true := decide_eq_true (by omega); have d2 : decide (i' < l'.length) = true := decide_eq_true (by omega); have hn2 : 2 ≤ l'.length := by omega
     obtain ⟨s1, s2, s3⟩ := hf_spec hn2; have PP := hide fun W => parts_any b' o' c' l'.length W hn2 (by omega) hlc
     have K1 := hide (KS.pre hks (hf l'.length)); have K2 := hide (KS.shift hks (n := hf l'.length) (by omega)); have HB := hide hb; have HO := hide ho; have HL := hide (@extF_left l' i' mark ⟨hn2, by omega⟩); have HR := hide (@extF_right l' i' mark ⟨hn2, by omega⟩); have HP := hide hpath; have R1 := hide fun W (s : KS .u64 W (some ⟨b', o', none⟩) (l'.take (hf l'.length))) => root_any (hf l'.length) (some ⟨b', o', none⟩) (hf l'.length) _ W (by simp; omega) s1 (by omega) (Nat.le_refl _) s
     have R2 := hide fun W (s : KS .u64 W (some ⟨b', o' + hf l'.length, none⟩) (l'.drop (hf l'.length))) => root_any (l'.length - hf l'.length) (some ⟨b', o' + hf l'.length, none⟩) (l'.length - hf l'.length) _ W (by simp) (by omega) (by omega) (Nat.le_refl _) s
     clear hks hb ho hpath hlc; obtain ⟨k, hk⟩ : ∃ k, k = hf l'.length := ⟨_, rfl⟩; rw [← hk] at PP s1 s2 s3 K1 K2 HL HR R1 R2; clear hk
     by_cases hik : i' ≤ k
     ·have d3 : decide ((i' : Int) ≤ (k : Int)) = true := decide_eq_true (by omega); have d4 : decide (i' ≤ k) = true := decide_eq_true (by omega); have HP2 := hide (show extF (l'.take k) i' mark ++ (path ++ [rootF (l'.drop k)]).reverse = res by rw [← HP.out, HL.out hik]; simp); clear HL HR R1 HP
      go_wp2_with (first
       | (go_at_call 64; refine (PP.out _).mono ?_; rintro e w2 ⟨rfl, hb⟩; have HB := hide (HB.out.trans (hb.mono HB.out.size)); have HO := hide (HO.out.below hb); clear hb)
       | (go_at_call 65; with_reducible refine (R2.out _ (K2.out.then_ HB.out)).mono ?_; rintro e w3 ⟨rfl, hb⟩; have HB := hide (HB.out.trans (hb.mono HB.out.size)); have HO := hide (HO.out.below hb); clear hb)
       | (at_builtin; refine wpList_append_rd _ rfl _ _ 34 rfl w.heap.size 25 i0 _ 1 8 Tryd.underlying34 hi hz0 hz1 hz2 rfl (by decide) _ _ _ rfl (OwnK.below HO.out ((Below.refl _ _).alloc (Nat.le_refl _) _)) (some ⟨w3.heap.size, 0, none⟩) 1 1 [.int .u64 (rootF (l'.drop k))] rfl rfl (Rd.new_row _ _ _) (by simp [Value.oneCell']) (by simp only [maxLen]; omega) (by omega) (by have := HB.out.size; simp; omega) ?_; intro v' w6 hown' hgrow _; have HB6 := hide ((HB.out.alloc HB.out.size _).grown hgrow (by have := HB.out.size; simp; omega) (fun g hg => (HO.out.lt g hg).1)); have HO6 := hide (OwnK.snoc hown' rfl rfl); clear hown' hgrow))
      go_roundw
      case rel => exact ⟨b', o', k, l'.take k, i', path ++ [rootF (l'.drop k)], mark, by rw [List.length_take, Nat.min_eq_left (by omega)], by simp; omega, by simp; omega, rfl, hi1, by rw [List.length_take, Nat.min_eq_left (by omega)]; exact hik, rfl, K1.out, HO6.out, by simp; omega, HP2.out, HB6.out⟩
      case measure => simp [lenV]; omega
     ·have d3 : decide ((i' : Int) ≤ (k : Int)) = false := decide_eq_false (by omega); have d4 : decide (i' ≤ k) = false := decide_eq_false (by omega); have HP2 := hide (show extF (l'.drop k) (i' - k) false ++ (path ++ [rootF (l'.take k)]).reverse = res by rw [← HP.out, HR.out hik]; simp); have p1 : (0 : Int) ≤ (i' : Int) - k := by omega
      have p2 : (i' : Int) - k ≤ 10000 := by omega
      have p3 := hide (show ((i' - k : Nat) : Int) = (i' : Int) - k by omega); clear HL HR R2 HP
      go_wp2_with (first
       | (go_at_call 64; refine (PP.out _).mono ?_; rintro e w2 ⟨rfl, hb⟩; have HB := hide (HB.out.trans (hb.mono HB.out.size)); have HO := hide (HO.out.below hb); clear hb)
       | (go_at_call 65; with_reducible refine (R1.out _ (K1.out.then_ HB.out)).mono ?_; rintro e w3 ⟨rfl, hb⟩; have HB := hide (HB.out.trans (hb.mono HB.out.size)); have HO := hide (HO.out.below hb); clear hb)
       | (at_builtin; refine wpList_append_rd _ rfl _ _ 34 rfl w.heap.size 25 i0 _ 1 8 Tryd.underlying34 hi hz0 hz1 hz2 rfl (by decide) _ _ _ rfl (OwnK.below HO.out ((Below.refl _ _).alloc (Nat.le_refl _) _)) (some ⟨w3.heap.size, 0, none⟩) 1 1 [.int .u64 (rootF (l'.take k))] rfl rfl (Rd.new_row _ _ _) (by simp [Value.oneCell']) (by simp only [maxLen]; omega) (by omega) (by have := HB.out.size; simp; omega) ?_; intro v' w6 hown' hgrow _; have HB6 := hide ((HB.out.alloc HB.out.size _).grown hgrow (by have := HB.out.size; simp; omega) (fun g hg => (HO.out.lt g hg).1)); have HO6 := hide (OwnK.snoc hown' rfl rfl); clear hown' hgrow))
      go_roundw
      case rel => exact ⟨b', o' + k, l'.length - k, l'.drop k, i' - k, path ++ [rootF (l'.take k)], false, by rw [List.length_drop], by simp, by simp; omega, by rw [p3.out], by omega, by simp; omega, rfl, K2.out, HO6.out, by simp; omega, HP2.out, HB6.out⟩
      case measure => simp [lenV]; omega
    ·have d1 : decide ((i' : Int) < (l'.length : Int)) = false := decide_eq_false (by omega); have d2 : decide (i' < l'.length) = false := decide_eq_false (by omega); rw [extF_end (by omega)] at hpath; have HB := hide hb; cases mark
     ·rw [if_neg (by simp)] at hpath; obtain ⟨pl, hpp⟩ : ∃ pl, pl = path ++ [rootF l'] := ⟨_, rfl⟩; have HE := hide (show pl.reverse = res by rw [← hpath, hpp]; simp); have HPL := hide hpp; have REV := hide (fun A7 c7 W (s : OwnK .u64 25 W w.heap.size (.slice A7 pl.length c7) pl) => revK_any w.heap.size A7 pl.length c7 pl W (by rw [hpp]; simp; omega) s); have HO := hide ho; have K0 := hide hks; have R0 := hide fun W (s : KS .u64 W (some ⟨b', o', none⟩) l') => root_any l'.length (some ⟨b', o', none⟩) c' l' W rfl hl1 (by omega) hlc s
      clear hn hpath hks ho hb hpp
      go_wp2_with (first
       | (go_at_call 65; refine (R0.out _ (K0.out.then_ HB.out)).mono ?_; rintro e w3 ⟨rfl, hb⟩; have HB := hide (HB.out.trans (hb.mono HB.out.size)); have HO := hide (HO.out.below hb); clear hb)
       | (at_builtin; refine wpList_append_rd _ rfl _ _ 34 rfl w.heap.size 25 i0 _ 1 8 Tryd.underlying34 hi hz0 hz1 hz2 rfl (by decide) _ _ _ rfl (OwnK.below HO.out ((Below.refl _ _).alloc (Nat.le_refl _) _)) (some ⟨w3.heap.size, 0, none⟩) 1 1 [.int .u64 (rootF l')] rfl rfl (Rd.new_row _ _ _) (by simp [Value.oneCell']) (by simp only [maxLen]; omega) (by omega) (by have := HB.out.size; simp; omega) ?_; intro v' w6 hown' hgrow _; have HB := hide ((HB.out.alloc HB.out.size _).grown hgrow (by have := HB.out.size; simp; omega) (fun g hg => (HO.out.lt g hg).1)); have ho6 := OwnK.snoc hown' rfl rfl; rw [← HPL.out] at ho6; clear hown' hgrow HO; obtain ⟨A7, c7, rfl, hl7, hm7, _⟩ := OwnK.form ho6; have HO := hide ho6; clear ho6)
       | (go_at_call 66; with_reducible refine (REV.out A7 c7 _ HO.out).mono ?_; rintro e w2 ⟨⟨_, rfl⟩, ho2, row, hg2, hr2⟩; have HO := hide ho2; have HB := hide (HB.out.grown hg2 HB.out.size hr2); clear ho2 hg2 hr2))
      go_ret2
      obtain ⟨A8, c8, h8, hl8, hm8, hk8⟩ := HO.out.form
      injection h8 with h8a h8b h8c
      subst h8a h8c; rw [HE.out] at hl8 hk8; exact ⟨A7, c7, by rw [← HE.out, List.length_reverse]; rfl, hl8, hm8, ⟨hk8, HO.out.fresh⟩, HB.out⟩
     ·rw [if_pos rfl, List.nil_append] at hpath; subst hpath; obtain ⟨A7, c7, rfl, hl7, hm7, hk7⟩ := ho.form; have REV := hide (fun W (s : OwnK .u64 25 W w.heap.size (.slice A7 path.length c7) path) => revK_any w.heap.size A7 path.length c7 path W (by omega) s); have HO := hide ho; clear hn hk7 ho hb hks
      go_wp2_with (go_at_call 66; refine (REV.out _ HO.out).mono ?_; rintro e w2 ⟨⟨_, rfl⟩, ho2, row, hg2, hr2⟩; have HO := hide ho2; have HB := hide (HB.out.grown hg2 HB.out.size hr2); clear ho2 hg2 hr2)
      go_ret2
      obtain ⟨A8, c8, h8, hl8, hm8, hk8⟩ := HO.out.form
      injection h8 with h8a h8b h8c
      subst h8a h8c; exact ⟨A7, c7, by rw [List.length_reverse]; rfl, hl8, hm8, ⟨hk8, HO.out.fresh⟩, HB.out⟩
 ·rw [if_pos hk]; obtain ⟨x, hx⟩ : ∃ x, x = checkS l := ⟨_, rfl⟩; rw [← hx] at HC hk ⊢; have q : (x != 0) = true := by simp [hk]
  clear hk hx
  go_enter Tryd.func34, Tryd.ntmps34
  go_wp2_with (go_at_call 63; refine (HC.out _).mono ?_; rintro e w2 ⟨rfl, rfl⟩)
  go_ret2
  exact ⟨none, 0, rfl, Nat.le_refl _, by simp [maxLen], ⟨Rd.nil _ _, fun _ _ h => by cases h⟩, Below.refl _ _⟩
end Go.Proofs.YtmfjcachghboiaaDoor
namespace Go.Proofs.YtmfjcachghboiaaDoor
open Go.RowKit
set_option maxRecDepth 100000 in
theorem wrapsI63 (n : Int) (h₀ : 0 ≤ n) (h₁ : n < 2 ^ 63) : IntKind.i64.wrap n = n := IntWalk.i64_in _ (by omega)
set_option maxRecDepth 100000 in
theorem pow_bits0 : ∀ i < 65, ∀ j < 64, 1 ≤ 64 * i + j → (((64 * i + j) &&& (64 * i + j - 1) = 0) ↔ 64 * i + j = 2 ^ Nat.log2 (64 * i + j)) := by decide +kernel
set_option maxRecDepth 100000 in
theorem pow_bits (m : Nat) (h : m < 4097) (h1 : 1 ≤ m) : (m &&& (m - 1) = 0) ↔ m = 2 ^ Nat.log2 m := by
 have := pow_bits0 (m / 64) (by omega) (m % 64) (by omega); rw [Nat.div_add_mod] at this; exact this h1
set_option maxRecDepth 100000 in
theorem isPow_iff {m : Nat} (h1 : 1 ≤ m) (h : m ≤ 4096) : isPow m ↔ m &&& (m - 1) = 0 := by
 rw [pow_bits m (by omega) h1]; constructor
 ·rintro ⟨e, rfl⟩; rw [Nat.log2_two_pow]
 ·intro h; exact ⟨_, h⟩
set_option maxRecDepth 100000 in
theorem and_pred {m : Nat} (h1 : 1 ≤ m) (h : m ≤ 4096) : bits .and .i64 (m : Int) ((m : Int) - 1) = ((m &&& (m - 1) : Nat) : Int) := by
 have := (bits_nat .i64 63 (by decide) wrapsI63 m (m - 1) (by omega) (by omega)).1; rw [← this]
 congr 1
 omega
set_option maxRecDepth 100000 in
theorem OwnK.blk_lt {k : IntKind} {e : TypeId} {w : World} {base n c : Nat} {A : Option Addr} {l : List Int} (h : OwnK k e w base (.slice A n c) l) : ∀ a, A = some a → a.block < w.heap.size := by
 rintro a rfl; rcases h.2 with ⟨hv, _⟩ | ⟨g, cap, cur, hv, hg, hh, _⟩
 ·injection hv with e1; cases e1
 ·injection hv with e1
  injection e1 with e1
  subst e1; exact (Array.getElem?_eq_some_iff.1 hh).1
def frE (s : Int × Int) (p : Int) : Int × Int := (pairF p s.1, pairF p s.2)
def flE (s : Int × Int) (p : Int) : Int × Int := (s.1, pairF s.2 p)
def growS (a b m n : Int) (path : List Int) : Bool := if n < 1 ∨ 4096 < n ∨ m < 1 ∨ n < m then false else decide (growO pairF a m.toNat n.toNat true path = some (a, b))
set_option maxRecDepth 100000 in
set_option maxHeartbeats 4000000 in
theorem ext_pow (a b : Int) (mm nn : Nat) (A : Option Addr) (c : Nat) (path : List Int) (w : World) (hp : path.length ≤ 1000) (hm1 : 1 ≤ mm) (hmn : mm < nn) (hn : nn ≤ 4096) (hpow : isPow mm) (h : KS .u64 w A path) :
    Calls Tryd.prog 36 #[.int .u64 a, .int .u64 b, .int .i64 (mm : Int), .int .i64 (nn : Int), .slice A path.length c] w fun e w' => e = .returned (.bool (decide (growO pairF a mm nn true path = some (a, b)))) ∧ Below w.heap.size w w' := by
  have q1 : decide ((nn : Int) < 1) = false := decide_eq_false (by omega)
  have q2 : decide (4096 < (nn : Int)) = false := decide_eq_false (by omega)
  have q3 : decide ((mm : Int) < 1) = false := decide_eq_false (by omega)
  have q4 : decide ((nn : Int) < mm) = false := decide_eq_false (by omega)
  have q5 : decide (nn < mm) = false := decide_eq_false (by omega)
  have q6 : ((mm : Int) == (nn : Int)) = false := by simp; omega
  have hb0 := and_pred hm1 (by omega)
  rw [(isPow_iff hm1 (by omega)).1 hpow] at hb0
  rw [grow_pow nn a mm path hpow hmn, grow_walk nn a a mm path hm1 hmn]
  obtain ⟨res, hres⟩ : ∃ r, wlk frE flE (stripT (mm - 1) (nn - 1)).1 (stripT (mm - 1) (nn - 1)).2 (a, a) path = r := ⟨_, rfl⟩
  have hres2 : wlk (fun s p => (pairF p s.1, pairF p s.2)) (fun s p => (s.1, pairF s.2 p)) (stripT (mm - 1) (nn - 1)).1 (stripT (mm - 1) (nn - 1)).2 (a, a) path = res := hres
  rw [hres2]
  have HRES := hide hres
  have K0 := hide h
  have CL := hide fun W (s : KS .u64 W A path) => cloneK_any A c path W (by omega) s
  have e1 := hide (show ((mm - 1 : Nat) : Int) = (mm : Int) - 1 by omega)
  have e2 := hide (show ((nn - 1 : Nat) : Int) = (nn : Int) - 1 by omega)
  have p1 : (0 : Int) ≤ (mm : Int) - 1 := by omega
  have p2 : (mm : Int) - 1 ≤ 5000 := by omega
  have p3 : (0 : Int) ≤ (nn : Int) - 1 := by omega
  have p4 : (nn : Int) - 1 ≤ 5000 := by omega
  have p5 : ((path.length : Int) + 1 == 0) = false := by simp; omega
  clear hpow h hres hres2
  go_enter Tryd.func36, Tryd.ntmps36
  go_wp2
  go_step3
  go_upto_region 9 with (first
    | (go_at_call 68; with_reducible refine (CL.out _ K0.out).mono ?_; rintro e w2 ⟨v2, rfl, ho, hb⟩; obtain ⟨A2, c2, rfl, hl2, hm2, -⟩ := OwnK.form ho; have BX := hide hb; have HO := hide ho; have hs2 := hb.size; have HLT := hide ho.blk_lt; clear ho hb)
    | (go_at_call 67; with_reducible refine (insertK_any A2 c2 path a w2.heap.size w.heap.size _ (HO.out.below ((Below.refl _ _).alloc (Nat.le_refl _) _)) (by simp; omega) (by omega) (Blk.new _ _ _) ?_).mono ?_))
  · rintro x rfl
    have := HLT.out x rfl
    omega
  rintro e w3 ⟨v3, rfl, ho3, hb3⟩
  obtain ⟨A3, pcap, rfl, hl3, hm3, hk3⟩ := ho3.form
  obtain ⟨pb, po, rfl, -, -⟩ := hk3.at_ (i := 0) (by simp)
  have hpc : path.length + 1 ≤ pcap := hl3
  have BX := hide ((BX.out.alloc hs2 (.cells #[.int .u64 a] 25)).trans hb3)
  have K := hide hk3
  have WW := hide (show W2 (w3.alloc (.cells #[.int .u64 ((mm : Int) - 1), .int .u64 ((nn : Int) - 1)] 99)) w3.heap.size (mm - 1) (nn - 1) by unfold W2; rw [e1.out, e2.out]; exact Blk.new w3 99 #[.int .u64 ((mm : Int) - 1), .int .u64 ((nn : Int) - 1)])
  have BW := hide ((Below.refl w3.heap.size w3).alloc (Nat.le_refl _) (.cells #[.int .u64 ((mm : Int) - 1), .int .u64 ((nn : Int) - 1)] 99))
  clear ho3 hb3 hk3 HO HLT K0 CL hl3
  go_wp2_with fail
  go_loopw [] (fun wr => ∃ a' b' : Nat, W2 wr w3.heap.size a' b' ∧ a' < 10000 ∧ stripT a' b' = stripT (mm - 1) (nn - 1) ∧ Below w3.heap.size w3 wr) (fun wr => cellN wr w3.heap.size)
  case atStart => exact ⟨mm - 1, nn - 1, WW.out, by omega, rfl, BW.out⟩
  case round =>
    clear WW BW
    obtain ⟨a', b', hw, ha', hst, hb⟩ := hrel
    have c0' : wr.cell? ⟨w3.heap.size, 0, none⟩ = some (.int .u64 a') := hw.cell 0
    have c1' : wr.cell? ⟨w3.heap.size, 1, none⟩ = some (.int .u64 b') := hw.cell 1
    have hbit := and1 a' ha'
    have HW := hide hw
    have HB := hide hb
    clear hw hb
    by_cases ho : a' % 2 = 1
    · rw [ho] at hbit
      have HS2 := hide (hst ▸ (stripT_odd (b := b') ho).symm : stripT (a' / 2) (b' / 2) = stripT (mm - 1) (nn - 1))
      have HU := hide fun W (hh : W2 W w3.heap.size a' b') => up_any w3.heap.size a' b' false W hh ha'
      have hpos : a' / 2 < a' := by omega
      clear hst ho
      go_wp2_with (go_at_call 69; refine (HU.out _ HW.out).mono ?_; rintro e w5 ⟨⟨_, rfl⟩, hw5, hg5⟩; have HB5 := hide (HB.out.grown hg5 HB.out.size (fun g hg => by injection hg with hg; omega)); have HW5 := hide hw5; clear hw5 hg5)
      go_roundw
      case rel => exact ⟨a' / 2, b' / 2, HW5.out, by omega, HS2.out, HB5.out⟩
      case measure => rw [cellN_eq HW.out, cellN_eq HW5.out]; exact hpos
    · rw [show a' % 2 = 0 by omega] at hbit
      rw [stripT_even (by omega)] at hst
      rw [← hst] at HRES
      have HRES := hide (show wlk frE flE a' b' (a, a) path = res from HRES.out)
      rename World => wo
      have hw1 : IntKind.i64.wrap 1 = 1 := IntWalk.i64_in _ (by omega)
      have hw3 : (1 : Int) ≤ (path.length : Int) + 1 := by omega
      rcases Decidable.em (pcap = 1) with hp1 | hp1
      all_goals
        obtain ⟨pb', po', hA, hbl, hc⟩ := (K.out.then_ HB.out).at_ (i := 0) (by simp)
        injection hA with hA
        injection hA with hA1 hA2
        subst hA1 hA2
        have c2' := hc 0 (by simp)
        rw [Nat.add_zero, List.getElem_cons_zero] at c2'
        have HC := hide hc
        clear hst ho hc
        go_wp2_with fail
        have n0 := fun x : Fut wo.heap.size wo => (x.cell pb po hbl).trans c2'
        refine wp_region_fut wo.heap.size (by kernel_rfl) (by kernel_rfl) ?_
        repeat (go_big_quiet_step ((first | fail)))
        refine wpQuiet_nil ?_
        intro w10 hq'; have hb10 := Fut.of hq'; clear hq'
        go_wp2_with fail
        go_step3
        go_wp2_with fail
        go_loopw [12, 13, 15, 80] (fun u12 u13 _ i wr => ∃ (k a2 b2 : Nat) (xv yv : Int), k ≤ path.length ∧ i = .int .i64 k ∧ u12 = .int .u64 xv ∧ u13 = .int .u64 yv ∧ W2 wr w3.heap.size a2 b2 ∧ a2 < 10000 ∧ wlk frE flE a2 b2 (xv, yv) (path.drop k) = res ∧ Below w3.heap.size w3 wr) (fun _ _ _ i _ => path.length - (intOf i).toNat)
        case atStart => exact ⟨0, a', b', a, a, Nat.zero_le _, rfl, rfl, rfl, HW.out.below hb10 HW.out.lt, ha', HRES.out, HB.out.trans (hb10.mono HB.out.size)⟩
        case round =>
          clear HW HB HRES c0' c1' c2' hbit HC
          obtain ⟨k, a2, b2, xv, yv, hk, rfl, rfl, rfl, hw2, ha2, hwlk, hb2⟩ := hrel
          have c0' : wr.cell? ⟨w3.heap.size, 0, none⟩ = some (.int .u64 a2) := hw2.cell 0
          have c1' : wr.cell? ⟨w3.heap.size, 1, none⟩ = some (.int .u64 b2) := hw2.cell 1
          have HB := hide hb2
          by_cases hlt : k < path.length
          · first
            | (exfalso; omega)
            | (have hc1 : ¬ pcap = 1 := by omega
               obtain ⟨pb', po', hA, hbl2, hc⟩ := (K.out.then_ HB.out).at_ (i := k + 1) (by simp; omega)
               injection hA with hA
               injection hA with hA1 hA2
               subst hA1 hA2
               have c2' := hc (k + 1) (by simp; omega)
               rw [List.getElem_cons_succ, show po + (k + 1) = po + 1 + k by omega] at c2'
               rw [List.drop_eq_getElem_cons hlt] at hwlk
               obtain ⟨p, hpp⟩ : ∃ p, p = path[k] := ⟨_, rfl⟩
               rw [← hpp] at c2' hwlk
               have HW := hide hw2
               clear hc hpp hb2 hw2
               by_cases hz : b2 = 0
               · subst hz
                 rw [wlk_end] at hwlk
                 subst hwlk
                 go_wp2
                 repeat (rw [Exit.noGoto_ret])
                 go_ret
                 exact ⟨rfl, BX.out.trans (HB.out.mono BX.out.size)⟩
               · have qz : ((b2 : Int) == 0) = false := by simp; omega
                 rw [wlk_cons, if_neg hz] at hwlk
                 have HR := hide fun W (hh : W2 W w3.heap.size a2 b2) => right_any w3.heap.size a2 b2 W hh ha2
                 cases hr : isR a2 b2
                 · rw [hr] at HR hwlk
                   rw [if_neg (by simp)] at hwlk
                   have HL := hide hwlk
                   have HU := hide fun W (hh : W2 W w3.heap.size a2 b2) => up_any w3.heap.size a2 b2 false W hh ha2
                   clear hwlk hr
                   go_wp2_with (first
                                   | (go_at_call 70; refine (HR.out _ HW.out).mono ?_; rintro e w23 ⟨rfl, hb⟩; have HW := hide (HW.out.below hb HW.out.lt); have HB := hide (HB.out.trans (hb.mono HB.out.size)); clear hb)
                                   | (go_at_call 71; refine (pair_any _ _ _).mono ?_; rintro e w24 ⟨rfl, hb⟩; have HW := hide (HW.out.below hb HW.out.lt); have HB := hide (HB.out.trans (hb.mono HB.out.size)); clear hb)
                                   | (go_at_call 69; refine (HU.out _ HW.out).mono ?_; rintro e w25 ⟨⟨_, rfl⟩, hw5, hg5⟩; have HB5 := hide (HB.out.grown hg5 HB.out.size (fun g hg => by injection hg with hg; omega)); have HW5 := hide hw5; clear hw5 hg5))
                   go_roundw
                   case rel => exact ⟨k + 1, a2 / 2, b2 / 2, xv, pairF yv p, by omega, by go_num, rfl, rfl, HW5.out, by omega, HL.out, HB5.out⟩
                   case measure => simp [intOf]; omega
                 · rw [hr] at HR hwlk
                   rw [if_pos rfl] at hwlk
                   have HL := hide hwlk
                   have HU := hide fun W (hh : W2 W w3.heap.size a2 b2) => up_any w3.heap.size a2 b2 true W hh ha2
                   have hle := upT_le a2 a2 b2 (Nat.le_refl _)
                   clear hwlk hr
                   go_wp2_with (first
                                   | (go_at_call 70; refine (HR.out _ HW.out).mono ?_; rintro e w23 ⟨rfl, hb⟩; have HW := hide (HW.out.below hb HW.out.lt); have HB := hide (HB.out.trans (hb.mono HB.out.size)); clear hb)
                                   | (go_at_call 71; refine (pair_any _ _ _).mono ?_; rintro e w24 ⟨rfl, hb⟩; have HW := hide (HW.out.below hb HW.out.lt); have HB := hide (HB.out.trans (hb.mono HB.out.size)); clear hb)
                                   | (go_at_call 69; refine (HU.out _ HW.out).mono ?_; rintro e w25 ⟨⟨_, rfl⟩, hw5, hg5⟩; have HB5 := hide (HB.out.grown hg5 HB.out.size (fun g hg => by injection hg with hg; omega)); have HW5 := hide hw5; clear hw5 hg5))
                   go_roundw
                   case rel => exact ⟨k + 1, (upT a2 b2).1, (upT a2 b2).2, pairF p xv, pairF p yv, by omega, by go_num, rfl, rfl, HW5.out, by omega, HL.out, HB5.out⟩
                   case measure => simp [intOf]; omega)
          · have hd : path.drop k = [] := List.drop_eq_nil_of_le (by omega)
            rw [hd] at hwlk
            clear hw2 hb2
            by_cases hz : b2 = 0
            · subst hz
              rw [wlk_nil0] at hwlk
              subst hwlk
              have HE := hide (show decide (some (xv, yv) = some (a, b)) = ((xv == a) && (yv == b)) by rw [Bool.eq_iff_iff]; simp)
              have HF := hide (BX.out.trans (HB.out.mono BX.out.size))
              cases hq : (xv == a)
              · go_wp2
                repeat (rw [Exit.noGoto_ret])
                go_ret
                exact ⟨by rw [HE.out, hq]; rfl, HF.out⟩
              · go_wp2
                repeat (rw [Exit.noGoto_ret])
                go_ret
                exact ⟨by rw [HE.out, hq]; rfl, HF.out⟩
            · have qz : ((b2 : Int) == 0) = false := by simp; omega
              rw [wlk_nil hz] at hwlk
              subst hwlk
              have HF := hide (BX.out.trans (HB.out.mono BX.out.size))
              go_wp2
              repeat (rw [Exit.noGoto_ret])
              go_ret
              exact ⟨rfl, HF.out⟩
end Go.Proofs.YtmfjcachghboiaaDoor
namespace Go.Proofs.YtmfjcachghboiaaDoor
open Go.RowKit
set_option maxRecDepth 100000 in
theorem growO_other {a : Int} {m n : Nat} {path : List Int} (h1 : 1 ≤ m) (hp : ¬isPow m) (hm : m < n) : growO pairF a m n true path = growO pairF a m n false path := by
 unfold growO; rw [grow_other n a a m path h1 hp hm]
set_option maxRecDepth 100000 in
set_option maxHeartbeats 4000000 in
theorem ext_odd (a b : Int) (mm nn : Nat) (A : Option Addr) (c0 : Int) (ps : List Int) (pcap : Nat) (w : World) (hp : ps.length ≤ 1000) (hpc : ps.length + 1 ≤ pcap) (hm1 : 1 ≤ mm) (hmn : mm < nn) (hn : nn ≤ 4096) (hpow : ¬isPow mm) (h : KS .u64 w A (c0 :: ps)) :
    Calls Tryd.prog 36 #[.int .u64 a, .int .u64 b, .int .i64 (mm : Int), .int .i64 (nn : Int), .slice A (ps.length + 1) pcap] w fun e w' => e = .returned (.bool (decide (growO pairF a mm nn true (c0 :: ps) = some (a, b)))) ∧ Below w.heap.size w w' := by
  have q1 : decide ((nn : Int) < 1) = false := decide_eq_false (by omega)
  have q2 : decide (4096 < (nn : Int)) = false := decide_eq_false (by omega)
  have q3 : decide ((mm : Int) < 1) = false := decide_eq_false (by omega)
  have q4 : decide ((nn : Int) < mm) = false := decide_eq_false (by omega)
  have q5 : decide (nn < mm) = false := decide_eq_false (by omega)
  have q6 : ((mm : Int) == (nn : Int)) = false := by simp; omega
  have hb0 := and_pred hm1 (by omega)
  have hz0 : ¬(mm &&& (mm - 1) = 0) := fun e => hpow ((isPow_iff hm1 (by omega)).2 e)
  obtain ⟨z, hz⟩ : ∃ z, z = mm &&& (mm - 1) := ⟨_, rfl⟩
  rw [← hz] at hb0 hz0
  have q7 : ((z : Int) == 0) = false := by simp; omega
  rw [growO_other hm1 hpow hmn, grow_walk nn a c0 mm ps hm1 hmn]
  obtain ⟨res, hres⟩ : ∃ r, wlk frE flE (stripT (mm - 1) (nn - 1)).1 (stripT (mm - 1) (nn - 1)).2 (c0, c0) ps = r := ⟨_, rfl⟩
  have hres2 : wlk (fun s p => (pairF p s.1, pairF p s.2)) (fun s p => (s.1, pairF s.2 p)) (stripT (mm - 1) (nn - 1)).1 (stripT (mm - 1) (nn - 1)).2 (c0, c0) ps = res := hres
  rw [hres2]
  obtain ⟨pb, po, rfl, -, -⟩ := h.at_ (i := 0) (by simp)
  have HRES := hide hres
  have K := hide h
  have e1 := hide (show ((mm - 1 : Nat) : Int) = (mm : Int) - 1 by omega)
  have e2 := hide (show ((nn - 1 : Nat) : Int) = (nn : Int) - 1 by omega)
  have p1 : (0 : Int) ≤ (mm : Int) - 1 := by omega
  have p2 : (mm : Int) - 1 ≤ 5000 := by omega
  have p3 : (0 : Int) ≤ (nn : Int) - 1 := by omega
  have p4 : (nn : Int) - 1 ≤ 5000 := by omega
  have p5 : ((ps.length : Int) + 1 == 0) = false := by simp; omega
  have BX := hide (Below.refl w.heap.size w)
  have WW := hide (show W2 (w.alloc (.cells #[.int .u64 ((mm : Int) - 1), .int .u64 ((nn : Int) - 1)] 99)) w.heap.size (mm - 1) (nn - 1) by unfold W2; rw [e1.out, e2.out]; exact Blk.new w 99 #[.int .u64 ((mm : Int) - 1), .int .u64 ((nn : Int) - 1)])
  have BW := hide ((Below.refl w.heap.size w).alloc (Nat.le_refl _) (.cells #[.int .u64 ((mm : Int) - 1), .int .u64 ((nn : Int) - 1)] 99))
  clear hpow h hres hres2 hz
  go_enter Tryd.func36, Tryd.ntmps36
  go_wp2
  go_step3
  go_wp2_with fail
  go_loopw [] (fun wr => ∃ a' b' : Nat, W2 wr w.heap.size a' b' ∧ a' < 10000 ∧ stripT a' b' = stripT (mm - 1) (nn - 1) ∧ Below w.heap.size w wr) (fun wr => cellN wr w.heap.size)
  case atStart => exact ⟨mm - 1, nn - 1, WW.out, by omega, rfl, BW.out⟩
  case round =>
    clear WW BW
    obtain ⟨a', b', hw, ha', hst, hb⟩ := hrel
    have c0' : wr.cell? ⟨w.heap.size, 0, none⟩ = some (.int .u64 a') := hw.cell 0
    have c1' : wr.cell? ⟨w.heap.size, 1, none⟩ = some (.int .u64 b') := hw.cell 1
    have hbit := and1 a' ha'
    have HW := hide hw
    have HB := hide hb
    clear hw hb
    by_cases ho : a' % 2 = 1
    · rw [ho] at hbit
      have HS2 := hide (hst ▸ (stripT_odd (b := b') ho).symm : stripT (a' / 2) (b' / 2) = stripT (mm - 1) (nn - 1))
      have HU := hide fun W (hh : W2 W w.heap.size a' b') => up_any w.heap.size a' b' false W hh ha'
      have hpos : a' / 2 < a' := by omega
      clear hst ho
      go_wp2_with (go_at_call 69; refine (HU.out _ HW.out).mono ?_; rintro e w5 ⟨⟨_, rfl⟩, hw5, hg5⟩; have HB5 := hide (HB.out.grown hg5 HB.out.size (fun g hg => by injection hg with hg; omega)); have HW5 := hide hw5; clear hw5 hg5)
      go_roundw
      case rel => exact ⟨a' / 2, b' / 2, HW5.out, by omega, HS2.out, HB5.out⟩
      case measure => rw [cellN_eq HW.out, cellN_eq HW5.out]; exact hpos
    · rw [show a' % 2 = 0 by omega] at hbit
      rw [stripT_even (by omega)] at hst
      rw [← hst] at HRES
      have HRES := hide (show wlk frE flE a' b' (c0, c0) ps = res from HRES.out)
      rename World => wo
      have hw1 : IntKind.i64.wrap 1 = 1 := IntWalk.i64_in _ (by omega)
      have hw3 : (1 : Int) ≤ (ps.length : Int) + 1 := by omega
      rcases Decidable.em (pcap = 1) with hp1 | hp1
      all_goals
        obtain ⟨pb', po', hA, hbl, hc⟩ := (K.out.then_ HB.out).at_ (i := 0) (by simp)
        injection hA with hA
        injection hA with hA1 hA2
        subst hA1 hA2
        have c2' := hc 0 (by simp)
        rw [Nat.add_zero, List.getElem_cons_zero] at c2'
        have HC := hide hc
        clear hst ho hc
        go_wp2_with fail
        have n0 := fun x : Fut wo.heap.size wo => (x.cell pb po hbl).trans c2'
        refine wp_region_fut wo.heap.size (by kernel_rfl) (by kernel_rfl) ?_
        repeat (go_big_quiet_step ((first | fail)))
        refine wpQuiet_nil ?_
        intro w10 hq'; have hb10 := Fut.of hq'; clear hq'
        go_wp2_with fail
        go_step3
        go_wp2_with fail
        go_loopw [12, 13, 15, 80] (fun u12 u13 _ i wr => ∃ (k a2 b2 : Nat) (xv yv : Int), k ≤ ps.length ∧ i = .int .i64 k ∧ u12 = .int .u64 xv ∧ u13 = .int .u64 yv ∧ W2 wr w.heap.size a2 b2 ∧ a2 < 10000 ∧ wlk frE flE a2 b2 (xv, yv) (ps.drop k) = res ∧ Below w.heap.size w wr) (fun _ _ _ i _ => ps.length - (intOf i).toNat)
        case atStart => exact ⟨0, a', b', c0, c0, Nat.zero_le _, rfl, rfl, rfl, HW.out.below hb10 HW.out.lt, ha', HRES.out, HB.out.trans (hb10.mono HB.out.size)⟩
        case round =>
          clear HW HB HRES c0' c1' c2' hbit HC
          obtain ⟨k, a2, b2, xv, yv, hk, rfl, rfl, rfl, hw2, ha2, hwlk, hb2⟩ := hrel
          have c0' : wr.cell? ⟨w.heap.size, 0, none⟩ = some (.int .u64 a2) := hw2.cell 0
          have c1' : wr.cell? ⟨w.heap.size, 1, none⟩ = some (.int .u64 b2) := hw2.cell 1
          have HB := hide hb2
          by_cases hlt : k < ps.length
          · first
            | (exfalso; omega)
            | (have hc1 : ¬ pcap = 1 := by omega
               obtain ⟨pb', po', hA, hbl2, hc⟩ := (K.out.then_ HB.out).at_ (i := k + 1) (by simp; omega)
               injection hA with hA
               injection hA with hA1 hA2
               subst hA1 hA2
               have c2' := hc (k + 1) (by simp; omega)
               rw [List.getElem_cons_succ, show po + (k + 1) = po + 1 + k by omega] at c2'
               rw [List.drop_eq_getElem_cons hlt] at hwlk
               obtain ⟨p, hpp⟩ : ∃ p, p = ps[k] := ⟨_, rfl⟩
               rw [← hpp] at c2' hwlk
               have HW := hide hw2
               clear hc hpp hb2 hw2
               by_cases hz : b2 = 0
               · subst hz
                 rw [wlk_end] at hwlk
                 subst hwlk
                 go_wp2
                 repeat (rw [Exit.noGoto_ret])
                 go_ret
                 exact ⟨rfl, BX.out.trans (HB.out.mono BX.out.size)⟩
               · have qz : ((b2 : Int) == 0) = false := by simp; omega
                 rw [wlk_cons, if_neg hz] at hwlk
                 have HR := hide fun W (hh : W2 W w.heap.size a2 b2) => right_any w.heap.size a2 b2 W hh ha2
                 cases hr : isR a2 b2
                 · rw [hr] at HR hwlk
                   rw [if_neg (by simp)] at hwlk
                   have HL := hide hwlk
                   have HU := hide fun W (hh : W2 W w.heap.size a2 b2) => up_any w.heap.size a2 b2 false W hh ha2
                   clear hwlk hr
                   go_wp2_with (first
                                   | (go_at_call 70; refine (HR.out _ HW.out).mono ?_; rintro e w23 ⟨rfl, hb⟩; have HW := hide (HW.out.below hb HW.out.lt); have HB := hide (HB.out.trans (hb.mono HB.out.size)); clear hb)
                                   | (go_at_call 71; refine (pair_any _ _ _).mono ?_; rintro e w24 ⟨rfl, hb⟩; have HW := hide (HW.out.below hb HW.out.lt); have HB := hide (HB.out.trans (hb.mono HB.out.size)); clear hb)
                                   | (go_at_call 69; refine (HU.out _ HW.out).mono ?_; rintro e w25 ⟨⟨_, rfl⟩, hw5, hg5⟩; have HB5 := hide (HB.out.grown hg5 HB.out.size (fun g hg => by injection hg with hg; omega)); have HW5 := hide hw5; clear hw5 hg5))
                   go_roundw
                   case rel => exact ⟨k + 1, a2 / 2, b2 / 2, xv, pairF yv p, by omega, by go_num, rfl, rfl, HW5.out, by omega, HL.out, HB5.out⟩
                   case measure => simp [intOf]; omega
                 · rw [hr] at HR hwlk
                   rw [if_pos rfl] at hwlk
                   have HL := hide hwlk
                   have HU := hide fun W (hh : W2 W w.heap.size a2 b2) => up_any w.heap.size a2 b2 true W hh ha2
                   have hle := upT_le a2 a2 b2 (Nat.le_refl _)
                   clear hwlk hr
                   go_wp2_with (first
                                   | (go_at_call 70; refine (HR.out _ HW.out).mono ?_; rintro e w23 ⟨rfl, hb⟩; have HW := hide (HW.out.below hb HW.out.lt); have HB := hide (HB.out.trans (hb.mono HB.out.size)); clear hb)
                                   | (go_at_call 71; refine (pair_any _ _ _).mono ?_; rintro e w24 ⟨rfl, hb⟩; have HW := hide (HW.out.below hb HW.out.lt); have HB := hide (HB.out.trans (hb.mono HB.out.size)); clear hb)
                                   | (go_at_call 69; refine (HU.out _ HW.out).mono ?_; rintro e w25 ⟨⟨_, rfl⟩, hw5, hg5⟩; have HB5 := hide (HB.out.grown hg5 HB.out.size (fun g hg => by injection hg with hg; omega)); have HW5 := hide hw5; clear hw5 hg5))
                   go_roundw
                   case rel => exact ⟨k + 1, (upT a2 b2).1, (upT a2 b2).2, pairF p xv, pairF p yv, by omega, by go_num, rfl, rfl, HW5.out, by omega, HL.out, HB5.out⟩
                   case measure => simp [intOf]; omega)
          · have hd : ps.drop k = [] := List.drop_eq_nil_of_le (by omega)
            rw [hd] at hwlk
            clear hw2 hb2
            by_cases hz : b2 = 0
            · subst hz
              rw [wlk_nil0] at hwlk
              subst hwlk
              have HE := hide (show decide (some (xv, yv) = some (a, b)) = ((xv == a) && (yv == b)) by rw [Bool.eq_iff_iff]; simp)
              have HF := hide (BX.out.trans (HB.out.mono BX.out.size))
              cases hq : (xv == a)
              · go_wp2
                repeat (rw [Exit.noGoto_ret])
                go_ret
                exact ⟨by rw [HE.out, hq]; rfl, HF.out⟩
              · go_wp2
                repeat (rw [Exit.noGoto_ret])
                go_ret
                exact ⟨by rw [HE.out, hq]; rfl, HF.out⟩
            · have qz : ((b2 : Int) == 0) = false := by simp; omega
              rw [wlk_nil hz] at hwlk
              subst hwlk
              have HF := hide (BX.out.trans (HB.out.mono BX.out.size))
              go_wp2
              repeat (rw [Exit.noGoto_ret])
              go_ret
              exact ⟨rfl, HF.out⟩
set_option maxRecDepth 100000 in
theorem ext_none (a b : Int) (mm nn : Nat) (A : Option Addr) (pcap : Nat) (w : World) (hm1 : 1 ≤ mm) (hmn : mm < nn) (hn : nn ≤ 4096) (hpow : ¬isPow mm) :
  Calls Tryd.prog 36 #[.int .u64 a, .int .u64 b, .int .i64 (mm : Int), .int .i64 (nn : Int), .slice A 0 pcap] w fun e w' => e = .returned (.bool false) ∧ Below w.heap.size w w' := by
 have q1 : decide ((nn : Int) < 1) = false := decide_eq_false (by omega); have q2 : decide (4096 < (nn : Int)) = false := decide_eq_false (by omega); have q3 : decide ((mm : Int) < 1) = false := decide_eq_false (by omega); have q4 : decide ((nn : Int) < mm) = false := decide_eq_false (by omega); have q5 : decide (nn < mm) = false := decide_eq_false (by omega); have q6 : ((mm : Int) == (nn : Int)) = false := by simp; omega
 have hb0 := and_pred hm1 (by omega); have hz0 : ¬(mm &&& (mm - 1) = 0) := fun e => hpow ((isPow_iff hm1 (by omega)).2 e)
 obtain ⟨z, hz⟩ : ∃ z, z = mm &&& (mm - 1) := ⟨_, rfl⟩; rw [← hz] at hb0 hz0; have q7 : ((z : Int) == 0) = false := by simp; omega
 have p1 : (0 : Int) ≤ (mm : Int) - 1 := by omega
 have p2 : (mm : Int) - 1 ≤ 5000 := by omega
 clear hpow hz
 go_enter Tryd.func36, Tryd.ntmps36
 go_wp2
 go_step3
 go_wp2
 repeat (rw [Exit.noGoto_ret])
 go_ret
 exact ⟨rfl, Below.refl _ _⟩
set_option maxRecDepth 100000 in
theorem ext_same (a b : Int) (nn : Nat) (A : Option Addr) (n c : Nat) (w : World) (hn1 : 1 ≤ nn) (hn : nn ≤ 4096) :
  Calls Tryd.prog 36 #[.int .u64 a, .int .u64 b, .int .i64 (nn : Int), .int .i64 (nn : Int), .slice A n c] w fun e w' => e = .returned (.bool (decide (n = 0) && (a == b))) ∧ Below w.heap.size w w' := by
 have q1 : decide ((nn : Int) < 1) = false := decide_eq_false (by omega); have q2 : decide (4096 < (nn : Int)) = false := decide_eq_false (by omega)
 by_cases h0 : n = 0
 ·subst h0; rw [decide_eq_true rfl, Bool.true_and]
  go_enter Tryd.func36, Tryd.ntmps36
  go_wp2
  go_step3
  go_wp2
  repeat (rw [Exit.noGoto_ret])
  go_ret
  exact ⟨rfl, Below.refl _ _⟩
 ·rw [decide_eq_false h0, Bool.false_and]; have q0 : ((n : Int) == 0) = false := by simp; omega
  clear h0
  go_enter Tryd.func36, Tryd.ntmps36
  go_wp2
  go_step3
  go_wp2
  repeat (rw [Exit.noGoto_ret])
  go_ret
  exact ⟨rfl, Below.refl _ _⟩
set_option maxRecDepth 100000 in
theorem Extended_any (a b m n : Int) (A : Option Addr) (c : Nat) (path : List Int) (w : World) (hp : path.length ≤ 1000) (hc : path.length ≤ c) (h : KS .u64 w A path) :
  Calls Tryd.prog 36 #[.int .u64 a, .int .u64 b, .int .i64 m, .int .i64 n, .slice A path.length c] w fun e w' => e = .returned (.bool (growS a b m n path)) ∧ Below w.heap.size w w' := by
 by_cases hbad : n < 1 ∨ 4096 < n ∨ m < 1 ∨ n < m
 ·have hr : growS a b m n path = false := if_pos hbad; rw [hr]; have hcase : decide (n < 1) = true ∨ decide (n < 1) = false ∧ decide (4096 < n) = true ∨ decide (n < 1) = false ∧ decide (4096 < n) = false ∧ decide (m < 1) = true ∨ decide (n < 1) = false ∧ decide (4096 < n) = false ∧ decide (m < 1) = false ∧ decide (n < m) = true := by
   simp only [decide_eq_true_eq, decide_eq_false_iff_not]; omega
  clear hr hbad; rcases hcase with q1 | ⟨q1, q2⟩ | ⟨q1, q2, q3⟩ | ⟨q1, q2, q3, q4⟩
  all_goals
   go_enter Tryd.func36, Tryd.ntmps36
   go_wp2
   go_step3
   go_wp2
   repeat (rw [Exit.noGoto_ret])
   go_ret
   exact ⟨rfl, Below.refl _ _⟩
 ·obtain ⟨mm, rfl⟩ : ∃ j : Nat, m = j := ⟨m.toNat, by omega⟩; obtain ⟨nn, rfl⟩ : ∃ j : Nat, n = j := ⟨n.toNat, by omega⟩; have hr : growS a b mm nn path = decide (growO pairF a mm nn true path = some (a, b)) := if_neg hbad; rw [hr]
  by_cases he : mm = nn
  ·subst he; have := ext_same a b mm A path.length c w (by omega) (by omega); rw [growO_mark]; have e : decide ((if path = [] then some (a, a) else none) = some (a, b)) = (decide (path.length = 0) && (a == b)) := by
    rw [Bool.eq_iff_iff]; cases path <;> simp
   rw [e]; exact this
  ·by_cases hpow : isPow mm
   ·exact ext_pow a b mm nn A c path w hp (by omega) (by omega) (by omega) hpow h
   ·cases path with
    | nil =>
     have := ext_none a b mm nn A c w (by omega) (by omega) (by omega) hpow; rw [growO_nil (by omega)]; exact this
    | cons c0 ps =>
     exact ext_odd a b mm nn A c0 ps c w (by simp at hp; omega) (by simpa using hc) (by omega) (by omega) (by omega) hpow h
end Go.Proofs.YtmfjcachghboiaaDoor
namespace Go.Proofs.YtmfjcachghboiaaDoor
open Go.RowKit
end Go.Proofs.YtmfjcachghboiaaDoor
namespace Go.Proofs.YtmfjcachghboiaaDoor
open Go.RowKit
end Go.Proofs.YtmfjcachghboiaaDoor
namespace Go.Proofs.YtmfjcachghboiaaDoor
open Go.RowKit
end Go.Proofs.YtmfjcachghboiaaDoor
namespace Go.Proofs.YtmfjcachghboiaaDoor
open Go.RowKit
end Go.Proofs.YtmfjcachghboiaaDoor
namespace Go.Proofs.YtmfjcachghboiaaDoor
open Go.RowKit
theorem fl_u64 (l : List Int) : l.flatMap c_u64 = l.map (Value.int .u64) := by induction l with | nil => rfl | cons x l ih => rw [List.flatMap_cons, ih]; rfl
theorem fl_i64 (l : List Int) : l.flatMap c_i64 = l.map (Value.int .i64) := by induction l with | nil => rfl | cons x l ih => rw [List.flatMap_cons, ih]; rfl
theorem RowS.ks {S : Nat → Prop} {w : World} {A : Option Addr} {l : List Int} (h : RowS S w A (l.flatMap c_u64)) : KS .u64 w A l := by have := h.r; rwa [fl_u64] at this
theorem RowS.ki {S : Nat → Prop} {w : World} {A : Option Addr} {l : List Int} (h : RowS S w A (l.flatMap c_i64)) : KS .i64 w A l := by have := h.r; rwa [fl_i64] at this
theorem row_fresh {S : Nat → Prop} {w w' : World} {A : Option Addr} {l : List Int} (h : KS .u64 w' A l) (hf : FrA w A) : RowS (ext S w w') w' A (l.flatMap c_u64) := by
 rw [fl_u64]; refine ⟨h, fun hn => ?_⟩; obtain ⟨b, o, e, hb, _⟩ := h hn; exact ⟨b, o, e, .inr ⟨hf b o e, hb⟩⟩
theorem octL_len (n : Int) : (octL n).length = 8 := rfl
def okI (l : List Int) : Bool := decide (inI l ∧ l.length ≤ 100000)
def intsF (l : List Int) : Int := sumB (textL l)
def nextF (d : Int) (l : List Int) : Int := sumB (octL d ++ textL l)
def G_digest_Ints : Nat → (List Int) → Option Int
 | 0, _ => none
 | _ + 1, l => whenG (okI l) (intsF l)
theorem ks_low {S0 : Nat → Prop} {w0 : World} {A : Option Addr} {l : List Int} (hS : ∀ g, S0 g → g < w0.heap.size) (h : RowS S0 w0 A (l.flatMap c_i64)) : ∀ W, Below w0.heap.size w0 W → KS .i64 W A l := fun W hW => (h.to (fun _ h => h) (Ag.below hW hS)).ki
theorem g_digest_Ints (F : Nat) (A : Option Addr) (c : Nat) (l : List Int) (S0 : Nat → Prop) (w0 : World) (hS : ∀ g, S0 g → g < w0.heap.size) (hT : Tb w0) (h : RowS S0 w0 A (l.flatMap c_i64)) (hc : l.length ≤ c) (r : Int) (hG : G_digest_Ints F l = some r) :
  Calls Tryd.prog 98 #[.slice A l.length c] w0 fun e w' => e = .returned (.int .u64 r) ∧ Below w0.heap.size w0 w' := by
 cases F with
 | zero => cases hG
 | succ F =>
 obtain ⟨h1, rfl⟩ := whenG_some hG; obtain ⟨h2, h3⟩ := of_decide_eq_true h1; have hlen := textL_len h2; have T1 := hide (text_any w0.heap.size 0 (.slice none 0 0) [] l A c w0 w0 hT (Below.refl _ _) (Nat.le_refl _) (Nat.le_refl _) OwnK.nil (by simp) (ks_low hS h) h2 h3); have HS := hide fun A c l W hn s => sum_any A c l W hn s
 clear hG h1 h hS hT
 go_enter Tryd.func98, Tryd.ntmps98
 go_wp2_with (first
  | (go_at_call 97; refine T1.out.mono ?_; rintro e w3 ⟨v3, rfl, ho3, hb3⟩; obtain ⟨A3, c3, rfl, hl3, hm3, hk3⟩ := ho3.form; have B3 := hide hb3; have K3 := hide hk3; clear ho3 hb3 hk3)
  | (go_at_call 95; refine (HS.out A3 c3 _ _ (by simp; omega) K3.out).mono ?_; rintro e w4 ⟨rfl, rfl⟩))
 go_ret
 exact ⟨rfl, B3.out⟩
def G_digest_Next : Nat → Int → (List Int) → Option Int
 | 0, _, _ => none
 | _ + 1, d, l => whenG (decide (inI l ∧ l.length ≤ 10000 ∧ 1 ≤ l.length)) (nextF d l)
set_option maxRecDepth 100000 in
set_option maxHeartbeats 4000000 in
theorem g_digest_Next (F : Nat) (n : Int) (A : Option Addr) (c : Nat) (l : List Int) (S0 : Nat → Prop) (w0 : World) (hS : ∀ g, S0 g → g < w0.heap.size) (hT : Tb w0) (h : RowS S0 w0 A (l.flatMap c_i64)) (hc : l.length ≤ c) (r : Int) (hG : G_digest_Next F n l = some r) :
  Calls Tryd.prog 76 #[.int .u64 n, .slice A l.length c] w0 fun e w' => e = .returned (.int .u64 r) ∧ Below w0.heap.size w0 w' := by
 cases F with
 | zero => cases hG
 | succ F =>
 obtain ⟨h1, rfl⟩ := whenG_some hG; obtain ⟨h2, h3, h4⟩ := of_decide_eq_true h1; have hlen := textL_len h2; obtain ⟨L, hL⟩ : ∃ L, L = octL n ++ textL l := ⟨_, rfl⟩; have hLl : L.length ≤ 9223372036854775807 := by rw [hL, List.length_append, octL_len]; omega
 have hR : nextF n l = sumB L := by rw [hL]; rfl
 rw [hR]; have T1 : Hid (∀ (W w : World), Below w0.heap.size w0 W → Below W.heap.size W w → ∀ A', KS .u8 w A' (octL n) → Calls Tryd.prog 97 #[.slice A' 8 8, .slice A l.length c] w fun e w' => ∃ v', e = .returned v' ∧ OwnK .u8 5 w' w.heap.size v' L ∧ Below w.heap.size w w') := by
  refine hide fun W w hW hb A' hk => ?_
  rw [hL]; exact text_f A' 8 (octL n) l A c w0 w hT (hW.trans (hb.mono hW.size)) (by simp [octL]) (by omega) hk (fun W' hW' => ks_low hS h W' ((hW.trans (hb.mono hW.size)).trans (hW'.mono (Nat.le_trans hW.size hb.size)))) h2 h3 h4
 have HS := hide fun A c W s => sum_any A c L W hLl s
 clear hG h1 h hS hT hlen h2 hL hLl hR h3 h4
 go_enter Tryd.func76, Tryd.ntmps76
 go_wp2_with (first
  | (go_at_call 94; refine (octets_any n _).mono ?_; rintro e w2 ⟨rfl, hb2⟩; have hs2 := hb2.size; have H2 := hide hb2; have B2 := hide (hb2.alloc hs2 (.cells (octRow n 8) 117)); have K2 := hide (ks_oct (Blk.new w2 117 (octRow n 8))); have I2 := hide ((Below.refl w2.heap.size w2).alloc (Nat.le_refl _) (.cells (octRow n 8) 117)); clear hb2; simp only [octRow, Nat.reduceLT, if_true] at B2 K2 I2 ⊢)
  | (go_at_call 97; with_reducible refine (T1.out w2 _ H2.out I2.out _ K2.out).mono ?_; rintro e w3 ⟨v3, rfl, ho3, hb3⟩; obtain ⟨A3, c3, rfl, hl3, hm3, hk3⟩ := ho3.form; have B3 := hide (B2.out.trans (hb3.mono B2.out.size)); have K3 := hide hk3; clear ho3 hb3 hk3)
  | (go_at_call 95; with_reducible refine (HS.out A3 c3 _ K3.out).mono ?_; rintro e w4 ⟨rfl, rfl⟩))
 go_ret
 exact ⟨rfl, B3.out⟩
end Go.Proofs.YtmfjcachghboiaaDoor
namespace Go.Proofs.YtmfjcachghboiaaDoor
open Go.RowKit Go.Maps
def G_regulatorref03_Decimal : Nat → Int → Option ((List UInt8))
 | 0, _ => none
 | F + 1, p_0 =>
 ifB (decide (p_0 < 0))
  (ifB (((IntKind.i64.wrap (Int.tdiv p_0 10)) == 0))
   (Option.bind (apS ([45] : List UInt8) ([UInt8.ofNat (Int.toNat (IntKind.u8.wrap (IntKind.i64.wrap (48 - p_0))))] : List UInt8)) (fun v_4 =>
   some v_4))
   (Option.bind (Option.bind (G_regulatorref03_Decimal F (IntKind.i64.wrap (Int.tdiv p_0 10))) (fun v_6 =>
    Option.bind (apS v_6 ([UInt8.ofNat (Int.toNat (IntKind.u8.wrap (IntKind.i64.wrap (48 - (Int.tmod p_0 10)))))] : List UInt8)) (fun v_8 =>
    some v_8)) : Option ((List UInt8))) (fun (v_19 : (List UInt8)) =>
    some v_19)))
  (ifB (decide (p_0 < 10))
   (some ([UInt8.ofNat (Int.toNat (IntKind.u8.wrap (IntKind.i64.wrap (48 + p_0))))] : List UInt8))
   (Option.bind (Option.bind (G_regulatorref03_Decimal F (IntKind.i64.wrap (Int.tdiv p_0 10))) (fun v_25 =>
    Option.bind (apS v_25 ([UInt8.ofNat (Int.toNat (IntKind.u8.wrap (IntKind.i64.wrap (48 + (Int.tmod p_0 10)))))] : List UInt8)) (fun v_27 =>
    some v_27)) : Option ((List UInt8))) (fun (v_38 : (List UInt8)) =>
    some v_38)))
set_option maxRecDepth 100000 in
set_option maxHeartbeats 16000000 in
theorem g_regulatorref03_Decimal : ∀ (F : Nat) (p_0 : Int) (S0 : Nat → Prop) (w0 : World) (hS : ∀ g, S0 g → g < w0.heap.size) (hT : Tb w0)  (r : (List UInt8)) (hG : G_regulatorref03_Decimal F p_0 = some r),
  Calls Tryd.prog 96 #[.int .i64 p_0] w0 fun e w' => e = .returned (.string ⟨List.toArray r⟩) ∧ Below w0.heap.size w0 w' := by
 intro F
 induction F with
 | zero => intros; rename_i hG; cases hG
 | succ F ih =>
 intro p_0 S0 w0 hS hT  r hG; refine vc_enter (n := 41) Tryd.func96 rfl rfl rfl (fun a hK => ?_); replace hK := hK.weak (K' := [(0, .int .i64 p_0)]) ⟨rfl, trivial⟩; have hE := Es.start hS; unfold G_regulatorref03_Decimal at hG; refine wp_seq ?_; refine wp_region_lit ?_; refine o0 2 (.string ⟨List.toArray ([] : List UInt8)⟩) hK rfl (fun _ => by kernel_rfl) rfl rfl rfl ?_; clear hK a; intro a hK; refine wpList_nil ?_; refine xt_norm ?_; refine wp_seq ?_; refine wp_seq ?_; refine wp_region_lit ?_; refine o0 3 (.int .i64 p_0) hK rfl (fun _ => by kernel_rfl) rfl rfl rfl ?_; clear hK a; intro a hK; refine o0 4 (.bool (decide (p_0 < 0))) hK rfl (fun _ => by kernel_rfl) rfl rfl rfl ?_; clear hK a; intro a hK; refine wpList_nil ?_; refine xt_norm ?_; rcases ifB_cases hG with ⟨h_1, hG⟩ | ⟨h_1, hG⟩
 ·replace hK := hK.sub (d := 4) (v' := .bool true) rfl (congrArg Value.bool h_1); refine vc_cond (t := true) hK (fun _ => rfl) ?_; rw [if_pos rfl]; refine wp_seq ?_; refine wp_seq ?_; refine wp_region_lit ?_; refine o0 5 (.int .i64 p_0) hK rfl (fun _ => by kernel_rfl) rfl rfl rfl ?_; clear hK a; intro a hK; refine st_run (d := 6) (v' := .int .i64 (IntKind.i64.wrap (Int.tdiv p_0 10))) hK rfl (ex_int rfl (fun _ => rfl) (fun _ => rfl) (by kernel_rfl) (fun W => run_quo (by decide) W)) rfl rfl rfl ?_; clear hK a; intro a hK; refine o0 7 (.bool ((IntKind.i64.wrap (Int.tdiv p_0 10)) == 0)) hK rfl (fun _ => by kernel_rfl) rfl rfl rfl ?_; clear hK a; intro a hK; refine wpList_nil ?_; refine xt_norm ?_; rcases ifB_cases hG with ⟨h_2, hG⟩ | ⟨h_2, hG⟩
  ·replace hK := hK.sub (d := 7) (v' := .bool true) rfl (congrArg Value.bool h_2); refine vc_cond (t := true) hK (fun _ => rfl) ?_; rw [if_pos rfl]; refine wp_seq ?_; obtain ⟨v_4, hy_4, hG⟩ := bind_some hG; refine wp_region_lit ?_; refine o0 8 (.int .i64 p_0) hK rfl (fun _ => by kernel_rfl) rfl rfl rfl ?_; clear hK a; intro a hK; refine oN 2 (fun K => (10, .int .u8 (IntKind.u8.wrap (IntKind.i64.wrap (48 - p_0)))) :: (9, .int .i64 (IntKind.i64.wrap (48 - p_0))) :: K) hK (fun _ => by kernel_rfl) ?_; clear hK a; intro a hK; refine sq_new (d := 11) (v := fun g => .slice (some ⟨g, 0, none⟩) 1 1) (cs := #[.int .u8 (IntKind.u8.wrap (IntKind.i64.wrap (48 - p_0)))]) (t := 5) hK hE rfl (fun _ _ => by kernel_rfl) rfl rfl ?_; clear hK hE a; intro a g_3 w_5 hK hE; refine st_op (d := 12) (v' := .string ⟨List.toArray ([UInt8.ofNat (Int.toNat (IntKind.u8.wrap (IntKind.i64.wrap (48 - p_0))))] : List UInt8)⟩) (vs := [.int .u8 (IntKind.u8.wrap (IntKind.i64.wrap (48 - p_0)))]) (obs := [(⟨g_3, 0, none⟩, .int .u8 (IntKind.u8.wrap (IntKind.i64.wrap (48 - p_0))))]) hK rfl (fun _ => by kernel_rfl) ⟨((hE.blk 0 rfl).cell 0).trans rfl, trivial⟩ rfl rfl rfl ?_; clear hK a; intro a hK; refine st_run (d := 13) (v' := .string ⟨List.toArray v_4⟩) hK rfl (ex_eq rfl (fun _ => rfl) (fun _ => rfl) (by kernel_rfl) (fun W => run_str_add hy_4 W)) rfl rfl rfl ?_; clear hK a; intro a hK; refine o0 2 (.string ⟨List.toArray v_4⟩) hK rfl (fun _ => by kernel_rfl) rfl rfl rfl ?_; clear hK a; intro a hK; refine wpList_nil ?_; refine xt_norm ?_; refine wp_ret ?_; refine xt_ret ?_; refine xt_ret ?_; refine vc_ret (v' := .string ⟨List.toArray v_4⟩) (vs := []) (obs := []) hK (fun _ => by kernel_rfl) trivial rfl ?_; obtain rfl := Option.some.inj hG; exact ⟨rfl, hE.b⟩
  ·replace hK := hK.sub (d := 7) (v' := .bool false) rfl (congrArg Value.bool h_2); refine vc_cond (t := false) hK (fun _ => rfl) ?_; rw [if_neg (by simp)]; refine wp_skip ?_; refine xt_norm ?_; obtain ⟨o_18, hA_18, hG_18⟩ := bind_some hG; replace hG := hA_18; clear hA_18; refine seq_join1 (fun a w_ => ∃ (v_19 : List UInt8), ∃ S_, Kn 41 [(2, .string ⟨List.toArray v_19⟩)] a ∧ Es S0 w0 w_ S_ [] ∧ v_19 = o_18) ?_ ?_
   ·obtain ⟨v_6, hy_6, hG⟩ := bind_some hG; obtain ⟨v_8, hy_8, hG⟩ := bind_some hG; replace hE := hE.drew; refine rh_begin (S0 := S0) (w0 := w0) [] rfl ?_; generalize w0.drew = w_9 at hE ⊢; refine rh_take (i := 0) (d := 14) (v' := .int .i64 p_0) (vs := []) (obs := []) #[true, false, false, false, false, false, false, false, false, false, false] (by kernel_rfl) hK ⟨_, hE.sel [] rfl rfl⟩ rfl (by kernel_rfl) (by kernel_rfl) (by kernel_rfl) (by kernel_rfl) (fun _ _ _ h => h) (fun _ => by kernel_rfl) (fun _ _ _ => trivial) rfl rfl rfl ?_; clear hK a; intro a hK; refine rh_run (i := 1) (d := 15) (v' := .int .i64 (IntKind.i64.wrap (Int.tdiv p_0 10))) #[true, true, false, false, false, false, false, false, false, false, false] (by kernel_rfl) hK ⟨_, hE.sel [] rfl rfl⟩ rfl (by kernel_rfl) (by kernel_rfl) (by kernel_rfl) (by kernel_rfl) (fun _ _ _ h => h) (ex_int rfl (fun _ => rfl) (fun _ => rfl) (by kernel_rfl) (fun W => run_quo (by decide) W)) rfl rfl rfl ?_; clear hK a; intro a hK; refine rh_take (i := 3) (d := 17) (v' := .int .i64 p_0) (vs := []) (obs := []) #[true, true, false, true, false, false, false, false, false, false, false] (by kernel_rfl) hK ⟨_, hE.sel [] rfl rfl⟩ rfl (by kernel_rfl) (by kernel_rfl) (by kernel_rfl) (by kernel_rfl) (fun _ _ _ h => h) (fun _ => by kernel_rfl) (fun _ _ _ => trivial) rfl rfl rfl ?_; clear hK a; intro a hK; refine rh_run (i := 4) (d := 18) (v' := .int .i64 (Int.tmod p_0 10)) #[true, true, false, true, true, false, false, false, false, false, false] (by kernel_rfl) hK ⟨_, hE.sel [] rfl rfl⟩ rfl (by kernel_rfl) (by kernel_rfl) (by kernel_rfl) (by kernel_rfl) (fun _ _ _ h => h) (ex_int rfl (fun _ => rfl) (fun _ => rfl) (by kernel_rfl) (fun W => run_rem (by decide) W)) rfl rfl rfl ?_; clear hK a; intro a hK; refine rh_take (i := 5) (d := 19) (v' := .int .i64 (IntKind.i64.wrap (48 - (Int.tmod p_0 10)))) (vs := []) (obs := []) #[true, true, false, true, true, true, false, false, false, false, false] (by kernel_rfl) hK ⟨_, hE.sel [] rfl rfl⟩ rfl (by kernel_rfl) (by kernel_rfl) (by kernel_rfl) (by kernel_rfl) (fun _ _ _ h => h) (fun _ => by kernel_rfl) (fun _ _ _ => trivial) rfl rfl rfl ?_; clear hK a; intro a hK; refine rh_take (i := 6) (d := 20) (v' := .int .u8 (IntKind.u8.wrap (IntKind.i64.wrap (48 - (Int.tmod p_0 10))))) (vs := []) (obs := []) #[true, true, false, true, true, true, true, false, false, false, false] (by kernel_rfl) hK ⟨_, hE.sel [] rfl rfl⟩ rfl (by kernel_rfl) (by kernel_rfl) (by kernel_rfl) (by kernel_rfl) (fun _ _ _ h => h) (fun _ => by kernel_rfl) (fun _ _ _ => trivial) rfl rfl rfl ?_; clear hK a; intro a hK; refine rh_all [2, 7] (by kernel_rfl) (by simp) ⟨?_, ?_, trivial⟩
    ·refine rh_call (d := 16) (f := 96) (args := #[.int .i64 (IntKind.i64.wrap (Int.tdiv p_0 10))]) rfl hK rfl (fun _ => by kernel_rfl) rfl rfl (ih (IntKind.i64.wrap (Int.tdiv p_0 10)) (fun g => g < _) _ (fun _ h => h) (hT.to hE.b)  _ hy_6) ?_; rintro e w_10 ⟨rfl, hb⟩; replace hE := hE.call hb; obtain ⟨S_11, hE⟩ : ∃ S, Es _ _ _ S _ := ⟨_, hE⟩; clear hb; refine ⟨_, rfl, ⟨_, hE.sel [] rfl rfl⟩, ?_⟩; clear hK a; intro a hK; refine rh_all [7] (by kernel_rfl) (by simp) ⟨?_, trivial⟩; refine rh_new (d := 21) (v := fun g => .slice (some ⟨g, 0, none⟩) 1 1) (cs := #[.int .u8 (IntKind.u8.wrap (IntKind.i64.wrap (48 - (Int.tmod p_0 10))))]) (t := 5) rfl hK hE rfl (fun _ _ => by kernel_rfl) rfl rfl ?_; clear hK hE a; intro a g_7 w_12 hK hE; refine ⟨⟨_, hE.sel [] rfl rfl⟩, ?_⟩; refine rh_all [8] (by kernel_rfl) (by simp) ⟨?_, trivial⟩; refine rh_op (d := 22) (v' := .string ⟨List.toArray ([UInt8.ofNat (Int.toNat (IntKind.u8.wrap (IntKind.i64.wrap (48 - (Int.tmod p_0 10)))))] : List UInt8)⟩) (vs := [.int .u8 (IntKind.u8.wrap (IntKind.i64.wrap (48 - (Int.tmod p_0 10))))]) (obs := [(⟨g_7, 0, none⟩, .int .u8 (IntKind.u8.wrap (IntKind.i64.wrap (48 - (Int.tmod p_0 10)))))]) rfl hK ⟨_, hE.sel [] rfl rfl⟩ rfl (fun _ => by kernel_rfl) ⟨((hE.blk 0 rfl).cell 0).trans rfl, trivial⟩ rfl rfl rfl ?_; clear hK a; intro a hK; refine rh_run (i := 9) (d := 23) (v' := .string ⟨List.toArray v_8⟩) #[true, true, true, true, true, true, true, true, true, true, false] (by kernel_rfl) hK ⟨_, hE.sel [] rfl rfl⟩ rfl (by kernel_rfl) (by kernel_rfl) (by kernel_rfl) (by kernel_rfl) (fun _ _ _ h => h) (ex_eq rfl (fun _ => rfl) (fun _ => rfl) (by kernel_rfl) (fun W => run_str_add hy_8 W)) rfl rfl rfl ?_; clear hK a; intro a hK; refine rh_take (i := 10) (d := 2) (v' := .string ⟨List.toArray v_8⟩) (vs := []) (obs := []) #[true, true, true, true, true, true, true, true, true, true, true] (by kernel_rfl) hK ⟨_, hE.sel [] rfl rfl⟩ rfl (by kernel_rfl) (by kernel_rfl) (by kernel_rfl) (by kernel_rfl) (fun _ _ _ h => h) (fun _ => by kernel_rfl) (fun _ _ _ => trivial) rfl rfl rfl ?_; clear hK a; intro a hK; refine wpAnyH_done (by kernel_rfl) ?_ _; refine xt_norm ?_; exact ⟨v_8, _, hK.weak ⟨rfl, trivial⟩, hE.sel [] rfl rfl, Option.some.inj hG⟩
    ·refine rh_new (d := 21) (v := fun g => .slice (some ⟨g, 0, none⟩) 1 1) (cs := #[.int .u8 (IntKind.u8.wrap (IntKind.i64.wrap (48 - (Int.tmod p_0 10))))]) (t := 5) rfl hK hE rfl (fun _ _ => by kernel_rfl) rfl rfl ?_; clear hK hE a; intro a g_7 w_13 hK hE; refine ⟨⟨_, hE.sel [] rfl rfl⟩, ?_⟩; refine rh_all [2, 8] (by kernel_rfl) (by simp) ⟨?_, ?_, trivial⟩
     ·refine rh_call (d := 16) (f := 96) (args := #[.int .i64 (IntKind.i64.wrap (Int.tdiv p_0 10))]) rfl hK rfl (fun _ => by kernel_rfl) rfl rfl (ih (IntKind.i64.wrap (Int.tdiv p_0 10)) (fun g => g < _) _ (fun _ h => h) (hT.to hE.b)  _ hy_6) ?_; rintro e w_14 ⟨rfl, hb⟩; replace hE := hE.call hb; obtain ⟨S_15, hE⟩ : ∃ S, Es _ _ _ S _ := ⟨_, hE⟩; clear hb; refine ⟨_, rfl, ⟨_, hE.sel [] rfl rfl⟩, ?_⟩; clear hK a; intro a hK; refine rh_all [8] (by kernel_rfl) (by simp) ⟨?_, trivial⟩; refine rh_op (d := 22) (v' := .string ⟨List.toArray ([UInt8.ofNat (Int.toNat (IntKind.u8.wrap (IntKind.i64.wrap (48 - (Int.tmod p_0 10)))))] : List UInt8)⟩) (vs := [.int .u8 (IntKind.u8.wrap (IntKind.i64.wrap (48 - (Int.tmod p_0 10))))]) (obs := [(⟨g_7, 0, none⟩, .int .u8 (IntKind.u8.wrap (IntKind.i64.wrap (48 - (Int.tmod p_0 10)))))]) rfl hK ⟨_, hE.sel [] rfl rfl⟩ rfl (fun _ => by kernel_rfl) ⟨((hE.blk 0 rfl).cell 0).trans rfl, trivial⟩ rfl rfl rfl ?_; clear hK a; intro a hK; refine rh_run (i := 9) (d := 23) (v' := .string ⟨List.toArray v_8⟩) #[true, true, true, true, true, true, true, true, true, true, false] (by kernel_rfl) hK ⟨_, hE.sel [] rfl rfl⟩ rfl (by kernel_rfl) (by kernel_rfl) (by kernel_rfl) (by kernel_rfl) (fun _ _ _ h => h) (ex_eq rfl (fun _ => rfl) (fun _ => rfl) (by kernel_rfl) (fun W => run_str_add hy_8 W)) rfl rfl rfl ?_; clear hK a; intro a hK; refine rh_take (i := 10) (d := 2) (v' := .string ⟨List.toArray v_8⟩) (vs := []) (obs := []) #[true, true, true, true, true, true, true, true, true, true, true] (by kernel_rfl) hK ⟨_, hE.sel [] rfl rfl⟩ rfl (by kernel_rfl) (by kernel_rfl) (by kernel_rfl) (by kernel_rfl) (fun _ _ _ h => h) (fun _ => by kernel_rfl) (fun _ _ _ => trivial) rfl rfl rfl ?_; clear hK a; intro a hK; refine wpAnyH_done (by kernel_rfl) ?_ _; refine xt_norm ?_; exact ⟨v_8, _, hK.weak ⟨rfl, trivial⟩, hE.sel [] rfl rfl, Option.some.inj hG⟩
     ·refine rh_op (d := 22) (v' := .string ⟨List.toArray ([UInt8.ofNat (Int.toNat (IntKind.u8.wrap (IntKind.i64.wrap (48 - (Int.tmod p_0 10)))))] : List UInt8)⟩) (vs := [.int .u8 (IntKind.u8.wrap (IntKind.i64.wrap (48 - (Int.tmod p_0 10))))]) (obs := [(⟨g_7, 0, none⟩, .int .u8 (IntKind.u8.wrap (IntKind.i64.wrap (48 - (Int.tmod p_0 10)))))]) rfl hK ⟨_, hE.sel [] rfl rfl⟩ rfl (fun _ => by kernel_rfl) ⟨((hE.blk 0 rfl).cell 0).trans rfl, trivial⟩ rfl rfl rfl ?_; clear hK a; intro a hK; refine rh_all [2] (by kernel_rfl) (by simp) ⟨?_, trivial⟩; refine rh_call (d := 16) (f := 96) (args := #[.int .i64 (IntKind.i64.wrap (Int.tdiv p_0 10))]) rfl hK rfl (fun _ => by kernel_rfl) rfl rfl (ih (IntKind.i64.wrap (Int.tdiv p_0 10)) (fun g => g < _) _ (fun _ h => h) (hT.to hE.b)  _ hy_6) ?_; rintro e w_16 ⟨rfl, hb⟩; replace hE := hE.call hb; obtain ⟨S_17, hE⟩ : ∃ S, Es _ _ _ S _ := ⟨_, hE⟩; clear hb; refine ⟨_, rfl, ⟨_, hE.sel [] rfl rfl⟩, ?_⟩; clear hK a; intro a hK; refine rh_run (i := 9) (d := 23) (v' := .string ⟨List.toArray v_8⟩) #[true, true, true, true, true, true, true, true, true, true, false] (by kernel_rfl) hK ⟨_, hE.sel [] rfl rfl⟩ rfl (by kernel_rfl) (by kernel_rfl) (by kernel_rfl) (by kernel_rfl) (fun _ _ _ h => h) (ex_eq rfl (fun _ => rfl) (fun _ => rfl) (by kernel_rfl) (fun W => run_str_add hy_8 W)) rfl rfl rfl ?_; clear hK a; intro a hK; refine rh_take (i := 10) (d := 2) (v' := .string ⟨List.toArray v_8⟩) (vs := []) (obs := []) #[true, true, true, true, true, true, true, true, true, true, true] (by kernel_rfl) hK ⟨_, hE.sel [] rfl rfl⟩ rfl (by kernel_rfl) (by kernel_rfl) (by kernel_rfl) (by kernel_rfl) (fun _ _ _ h => h) (fun _ => by kernel_rfl) (fun _ _ _ => trivial) rfl rfl rfl ?_; clear hK a; intro a hK; refine wpAnyH_done (by kernel_rfl) ?_ _; refine xt_norm ?_; exact ⟨v_8, _, hK.weak ⟨rfl, trivial⟩, hE.sel [] rfl rfl, Option.some.inj hG⟩
   ·clear hK hE a; rintro a w_20 ⟨v_19, S_21, hK, hE, ho_⟩; subst ho_; replace hG := hG_18; clear hG_18; refine wp_ret ?_; refine xt_ret ?_; refine vc_ret (v' := .string ⟨List.toArray v_19⟩) (vs := []) (obs := []) hK (fun _ => by kernel_rfl) trivial rfl ?_; obtain rfl := Option.some.inj hG; exact ⟨rfl, hE.b⟩
 ·replace hK := hK.sub (d := 4) (v' := .bool false) rfl (congrArg Value.bool h_1); refine vc_cond (t := false) hK (fun _ => rfl) ?_; rw [if_neg (by simp)]; refine wp_skip ?_; refine xt_norm ?_; refine wp_seq ?_; refine wp_seq ?_; refine wp_region_lit ?_; refine o0 24 (.int .i64 p_0) hK rfl (fun _ => by kernel_rfl) rfl rfl rfl ?_; clear hK a; intro a hK; refine o0 25 (.bool (decide (p_0 < 10))) hK rfl (fun _ => by kernel_rfl) rfl rfl rfl ?_; clear hK a; intro a hK; refine wpList_nil ?_; refine xt_norm ?_; rcases ifB_cases hG with ⟨h_22, hG⟩ | ⟨h_22, hG⟩
  ·replace hK := hK.sub (d := 25) (v' := .bool true) rfl (congrArg Value.bool h_22); refine vc_cond (t := true) hK (fun _ => rfl) ?_; rw [if_pos rfl]; refine wp_seq ?_; refine wp_region_lit ?_; refine o0 26 (.int .i64 p_0) hK rfl (fun _ => by kernel_rfl) rfl rfl rfl ?_; clear hK a; intro a hK; refine oN 2 (fun K => (28, .int .u8 (IntKind.u8.wrap (IntKind.i64.wrap (48 + p_0)))) :: (27, .int .i64 (IntKind.i64.wrap (48 + p_0))) :: K) hK (fun _ => by kernel_rfl) ?_; clear hK a; intro a hK; refine sq_new (d := 29) (v := fun g => .slice (some ⟨g, 0, none⟩) 1 1) (cs := #[.int .u8 (IntKind.u8.wrap (IntKind.i64.wrap (48 + p_0)))]) (t := 5) hK hE rfl (fun _ _ => by kernel_rfl) rfl rfl ?_; clear hK hE a; intro a g_23 w_24 hK hE; refine st_op (d := 30) (v' := .string ⟨List.toArray ([UInt8.ofNat (Int.toNat (IntKind.u8.wrap (IntKind.i64.wrap (48 + p_0))))] : List UInt8)⟩) (vs := [.int .u8 (IntKind.u8.wrap (IntKind.i64.wrap (48 + p_0)))]) (obs := [(⟨g_23, 0, none⟩, .int .u8 (IntKind.u8.wrap (IntKind.i64.wrap (48 + p_0))))]) hK rfl (fun _ => by kernel_rfl) ⟨((hE.blk 0 rfl).cell 0).trans rfl, trivial⟩ rfl rfl rfl ?_; clear hK a; intro a hK; refine st_op (d := 2) (v' := .string ⟨List.toArray ([UInt8.ofNat (Int.toNat (IntKind.u8.wrap (IntKind.i64.wrap (48 + p_0))))] : List UInt8)⟩) (vs := []) (obs := []) hK rfl (fun _ => by kernel_rfl) trivial rfl rfl rfl ?_; clear hK a; intro a hK; refine wpList_nil ?_; refine xt_norm ?_; refine wp_ret ?_; refine xt_ret ?_; refine vc_ret (v' := .string ⟨List.toArray ([UInt8.ofNat (Int.toNat (IntKind.u8.wrap (IntKind.i64.wrap (48 + p_0))))] : List UInt8)⟩) (vs := []) (obs := []) hK (fun _ => by kernel_rfl) trivial rfl ?_; obtain rfl := Option.some.inj hG; exact ⟨rfl, hE.b⟩
  ·replace hK := hK.sub (d := 25) (v' := .bool false) rfl (congrArg Value.bool h_22); refine vc_cond (t := false) hK (fun _ => rfl) ?_; rw [if_neg (by simp)]; refine wp_skip ?_; refine xt_norm ?_; obtain ⟨o_37, hA_37, hG_37⟩ := bind_some hG; replace hG := hA_37; clear hA_37; refine seq_join1 (fun a w_ => ∃ (v_38 : List UInt8), ∃ S_, Kn 41 [(2, .string ⟨List.toArray v_38⟩)] a ∧ Es S0 w0 w_ S_ [] ∧ v_38 = o_37) ?_ ?_
   ·obtain ⟨v_25, hy_25, hG⟩ := bind_some hG; obtain ⟨v_27, hy_27, hG⟩ := bind_some hG; replace hE := hE.drew; refine rh_begin (S0 := S0) (w0 := w0) [] rfl ?_; generalize w0.drew = w_28 at hE ⊢; refine rh_take (i := 0) (d := 31) (v' := .int .i64 p_0) (vs := []) (obs := []) #[true, false, false, false, false, false, false, false, false, false, false] (by kernel_rfl) hK ⟨_, hE.sel [] rfl rfl⟩ rfl (by kernel_rfl) (by kernel_rfl) (by kernel_rfl) (by kernel_rfl) (fun _ _ _ h => h) (fun _ => by kernel_rfl) (fun _ _ _ => trivial) rfl rfl rfl ?_; clear hK a; intro a hK; refine rh_run (i := 1) (d := 32) (v' := .int .i64 (IntKind.i64.wrap (Int.tdiv p_0 10))) #[true, true, false, false, false, false, false, false, false, false, false] (by kernel_rfl) hK ⟨_, hE.sel [] rfl rfl⟩ rfl (by kernel_rfl) (by kernel_rfl) (by kernel_rfl) (by kernel_rfl) (fun _ _ _ h => h) (ex_int rfl (fun _ => rfl) (fun _ => rfl) (by kernel_rfl) (fun W => run_quo (by decide) W)) rfl rfl rfl ?_; clear hK a; intro a hK; refine rh_take (i := 3) (d := 34) (v' := .int .i64 p_0) (vs := []) (obs := []) #[true, true, false, true, false, false, false, false, false, false, false] (by kernel_rfl) hK ⟨_, hE.sel [] rfl rfl⟩ rfl (by kernel_rfl) (by kernel_rfl) (by kernel_rfl) (by kernel_rfl) (fun _ _ _ h => h) (fun _ => by kernel_rfl) (fun _ _ _ => trivial) rfl rfl rfl ?_; clear hK a; intro a hK; refine rh_run (i := 4) (d := 35) (v' := .int .i64 (Int.tmod p_0 10)) #[true, true, false, true, true, false, false, false, false, false, false] (by kernel_rfl) hK ⟨_, hE.sel [] rfl rfl⟩ rfl (by kernel_rfl) (by kernel_rfl) (by kernel_rfl) (by kernel_rfl) (fun _ _ _ h => h) (ex_int rfl (fun _ => rfl) (fun _ => rfl) (by kernel_rfl) (fun W => run_rem (by decide) W)) rfl rfl rfl ?_; clear hK a; intro a hK; refine rh_take (i := 5) (d := 36) (v' := .int .i64 (IntKind.i64.wrap (48 + (Int.tmod p_0 10)))) (vs := []) (obs := []) #[true, true, false, true, true, true, false, false, false, false, false] (by kernel_rfl) hK ⟨_, hE.sel [] rfl rfl⟩ rfl (by kernel_rfl) (by kernel_rfl) (by kernel_rfl) (by kernel_rfl) (fun _ _ _ h => h) (fun _ => by kernel_rfl) (fun _ _ _ => trivial) rfl rfl rfl ?_; clear hK a; intro a hK; refine rh_take (i := 6) (d := 37) (v' := .int .u8 (IntKind.u8.wrap (IntKind.i64.wrap (48 + (Int.tmod p_0 10))))) (vs := []) (obs := []) #[true, true, false, true, true, true, true, false, false, false, false] (by kernel_rfl) hK ⟨_, hE.sel [] rfl rfl⟩ rfl (by kernel_rfl) (by kernel_rfl) (by kernel_rfl) (by kernel_rfl) (fun _ _ _ h => h) (fun _ => by kernel_rfl) (fun _ _ _ => trivial) rfl rfl rfl ?_; clear hK a; intro a hK; refine rh_all [2, 7] (by kernel_rfl) (by simp) ⟨?_, ?_, trivial⟩
    ·refine rh_call (d := 33) (f := 96) (args := #[.int .i64 (IntKind.i64.wrap (Int.tdiv p_0 10))]) rfl hK rfl (fun _ => by kernel_rfl) rfl rfl (ih (IntKind.i64.wrap (Int.tdiv p_0 10)) (fun g => g < _) _ (fun _ h => h) (hT.to hE.b)  _ hy_25) ?_; rintro e w_29 ⟨rfl, hb⟩; replace hE := hE.call hb; obtain ⟨S_30, hE⟩ : ∃ S, Es _ _ _ S _ := ⟨_, hE⟩; clear hb; refine ⟨_, rfl, ⟨_, hE.sel [] rfl rfl⟩, ?_⟩; clear hK a; intro a hK; refine rh_all [7] (by kernel_rfl) (by simp) ⟨?_, trivial⟩; refine rh_new (d := 38) (v := fun g => .slice (some ⟨g, 0, none⟩) 1 1) (cs := #[.int .u8 (IntKind.u8.wrap (IntKind.i64.wrap (48 + (Int.tmod p_0 10))))]) (t := 5) rfl hK hE rfl (fun _ _ => by kernel_rfl) rfl rfl ?_; clear hK hE a; intro a g_26 w_31 hK hE; refine ⟨⟨_, hE.sel [] rfl rfl⟩, ?_⟩; refine rh_all [8] (by kernel_rfl) (by simp) ⟨?_, trivial⟩; refine rh_op (d := 39) (v' := .string ⟨List.toArray ([UInt8.ofNat (Int.toNat (IntKind.u8.wrap (IntKind.i64.wrap (48 + (Int.tmod p_0 10)))))] : List UInt8)⟩) (vs := [.int .u8 (IntKind.u8.wrap (IntKind.i64.wrap (48 + (Int.tmod p_0 10))))]) (obs := [(⟨g_26, 0, none⟩, .int .u8 (IntKind.u8.wrap (IntKind.i64.wrap (48 + (Int.tmod p_0 10)))))]) rfl hK ⟨_, hE.sel [] rfl rfl⟩ rfl (fun _ => by kernel_rfl) ⟨((hE.blk 0 rfl).cell 0).trans rfl, trivial⟩ rfl rfl rfl ?_; clear hK a; intro a hK; refine rh_run (i := 9) (d := 40) (v' := .string ⟨List.toArray v_27⟩) #[true, true, true, true, true, true, true, true, true, true, false] (by kernel_rfl) hK ⟨_, hE.sel [] rfl rfl⟩ rfl (by kernel_rfl) (by kernel_rfl) (by kernel_rfl) (by kernel_rfl) (fun _ _ _ h => h) (ex_eq rfl (fun _ => rfl) (fun _ => rfl) (by kernel_rfl) (fun W => run_str_add hy_27 W)) rfl rfl rfl ?_; clear hK a; intro a hK; refine rh_take (i := 10) (d := 2) (v' := .string ⟨List.toArray v_27⟩) (vs := []) (obs := []) #[true, true, true, true, true, true, true, true, true, true, true] (by kernel_rfl) hK ⟨_, hE.sel [] rfl rfl⟩ rfl (by kernel_rfl) (by kernel_rfl) (by kernel_rfl) (by kernel_rfl) (fun _ _ _ h => h) (fun _ => by kernel_rfl) (fun _ _ _ => trivial) rfl rfl rfl ?_; clear hK a; intro a hK; refine wpAnyH_done (by kernel_rfl) ?_ _; refine xt_norm ?_; exact ⟨v_27, _, hK.weak ⟨rfl, trivial⟩, hE.sel [] rfl rfl, Option.some.inj hG⟩
    ·refine rh_new (d := 38) (v := fun g => .slice (some ⟨g, 0, none⟩) 1 1) (cs := #[.int .u8 (IntKind.u8.wrap (IntKind.i64.wrap (48 + (Int.tmod p_0 10))))]) (t := 5) rfl hK hE rfl (fun _ _ => by kernel_rfl) rfl rfl ?_; clear hK hE a; intro a g_26 w_32 hK hE; refine ⟨⟨_, hE.sel [] rfl rfl⟩, ?_⟩; refine rh_all [2, 8] (by kernel_rfl) (by simp) ⟨?_, ?_, trivial⟩
     ·refine rh_call (d := 33) (f := 96) (args := #[.int .i64 (IntKind.i64.wrap (Int.tdiv p_0 10))]) rfl hK rfl (fun _ => by kernel_rfl) rfl rfl (ih (IntKind.i64.wrap (Int.tdiv p_0 10)) (fun g => g < _) _ (fun _ h => h) (hT.to hE.b)  _ hy_25) ?_; rintro e w_33 ⟨rfl, hb⟩; replace hE := hE.call hb; obtain ⟨S_34, hE⟩ : ∃ S, Es _ _ _ S _ := ⟨_, hE⟩; clear hb; refine ⟨_, rfl, ⟨_, hE.sel [] rfl rfl⟩, ?_⟩; clear hK a; intro a hK; refine rh_all [8] (by kernel_rfl) (by simp) ⟨?_, trivial⟩; refine rh_op (d := 39) (v' := .string ⟨List.toArray ([UInt8.ofNat (Int.toNat (IntKind.u8.wrap (IntKind.i64.wrap (48 + (Int.tmod p_0 10)))))] : List UInt8)⟩) (vs := [.int .u8 (IntKind.u8.wrap (IntKind.i64.wrap (48 + (Int.tmod p_0 10))))]) (obs := [(⟨g_26, 0, none⟩, .int .u8 (IntKind.u8.wrap (IntKind.i64.wrap (48 + (Int.tmod p_0 10)))))]) rfl hK ⟨_, hE.sel [] rfl rfl⟩ rfl (fun _ => by kernel_rfl) ⟨((hE.blk 0 rfl).cell 0).trans rfl, trivial⟩ rfl rfl rfl ?_; clear hK a; intro a hK; refine rh_run (i := 9) (d := 40) (v' := .string ⟨List.toArray v_27⟩) #[true, true, true, true, true, true, true, true, true, true, false] (by kernel_rfl) hK ⟨_, hE.sel [] rfl rfl⟩ rfl (by kernel_rfl) (by kernel_rfl) (by kernel_rfl) (by kernel_rfl) (fun _ _ _ h => h) (ex_eq rfl (fun _ => rfl) (fun _ => rfl) (by kernel_rfl) (fun W => run_str_add hy_27 W)) rfl rfl rfl ?_; clear hK a; intro a hK; refine rh_take (i := 10) (d := 2) (v' := .string ⟨List.toArray v_27⟩) (vs := []) (obs := []) #[true, true, true, true, true, true, true, true, true, true, true] (by kernel_rfl) hK ⟨_, hE.sel [] rfl rfl⟩ rfl (by kernel_rfl) (by kernel_rfl) (by kernel_rfl) (by kernel_rfl) (fun _ _ _ h => h) (fun _ => by kernel_rfl) (fun _ _ _ => trivial) rfl rfl rfl ?_; clear hK a; intro a hK; refine wpAnyH_done (by kernel_rfl) ?_ _; refine xt_norm ?_; exact ⟨v_27, _, hK.weak ⟨rfl, trivial⟩, hE.sel [] rfl rfl, Option.some.inj hG⟩
     ·refine rh_op (d := 39) (v' := .string ⟨List.toArray ([UInt8.ofNat (Int.toNat (IntKind.u8.wrap (IntKind.i64.wrap (48 + (Int.tmod p_0 10)))))] : List UInt8)⟩) (vs := [.int .u8 (IntKind.u8.wrap (IntKind.i64.wrap (48 + (Int.tmod p_0 10))))]) (obs := [(⟨g_26, 0, none⟩, .int .u8 (IntKind.u8.wrap (IntKind.i64.wrap (48 + (Int.tmod p_0 10)))))]) rfl hK ⟨_, hE.sel [] rfl rfl⟩ rfl (fun _ => by kernel_rfl) ⟨((hE.blk 0 rfl).cell 0).trans rfl, trivial⟩ rfl rfl rfl ?_; clear hK a; intro a hK; refine rh_all [2] (by kernel_rfl) (by simp) ⟨?_, trivial⟩; refine rh_call (d := 33) (f := 96) (args := #[.int .i64 (IntKind.i64.wrap (Int.tdiv p_0 10))]) rfl hK rfl (fun _ => by kernel_rfl) rfl rfl (ih (IntKind.i64.wrap (Int.tdiv p_0 10)) (fun g => g < _) _ (fun _ h => h) (hT.to hE.b)  _ hy_25) ?_; rintro e w_35 ⟨rfl, hb⟩; replace hE := hE.call hb; obtain ⟨S_36, hE⟩ : ∃ S, Es _ _ _ S _ := ⟨_, hE⟩; clear hb; refine ⟨_, rfl, ⟨_, hE.sel [] rfl rfl⟩, ?_⟩; clear hK a; intro a hK; refine rh_run (i := 9) (d := 40) (v' := .string ⟨List.toArray v_27⟩) #[true, true, true, true, true, true, true, true, true, true, false] (by kernel_rfl) hK ⟨_, hE.sel [] rfl rfl⟩ rfl (by kernel_rfl) (by kernel_rfl) (by kernel_rfl) (by kernel_rfl) (fun _ _ _ h => h) (ex_eq rfl (fun _ => rfl) (fun _ => rfl) (by kernel_rfl) (fun W => run_str_add hy_27 W)) rfl rfl rfl ?_; clear hK a; intro a hK; refine rh_take (i := 10) (d := 2) (v' := .string ⟨List.toArray v_27⟩) (vs := []) (obs := []) #[true, true, true, true, true, true, true, true, true, true, true] (by kernel_rfl) hK ⟨_, hE.sel [] rfl rfl⟩ rfl (by kernel_rfl) (by kernel_rfl) (by kernel_rfl) (by kernel_rfl) (fun _ _ _ h => h) (fun _ => by kernel_rfl) (fun _ _ _ => trivial) rfl rfl rfl ?_; clear hK a; intro a hK; refine wpAnyH_done (by kernel_rfl) ?_ _; refine xt_norm ?_; exact ⟨v_27, _, hK.weak ⟨rfl, trivial⟩, hE.sel [] rfl rfl, Option.some.inj hG⟩
   ·clear hK hE a; rintro a w_39 ⟨v_38, S_40, hK, hE, ho_⟩; subst ho_; replace hG := hG_37; clear hG_37; refine wp_ret ?_; refine vc_ret (v' := .string ⟨List.toArray v_38⟩) (vs := []) (obs := []) hK (fun _ => by kernel_rfl) trivial rfl ?_; obtain rfl := Option.some.inj hG; exact ⟨rfl, hE.b⟩
end Go.Proofs.YtmfjcachghboiaaDoor
