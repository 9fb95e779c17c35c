/-
  Texts joined: So38, Zl, Z0, Z1, Z2, Z3.
-/
import Derived.RangeFuncBox
import Derived.RangeFuncLeaves
import Derived.RangeFuncNested
import Derived.Shelf.Abstract
import Derived.WalkKit
import Derived.OwnWalkIn
import Derived.TacticsInMore
import Derived.LoopNIn
import Derived.LoopIn
import Derived.Maps.AppendAt
import Derived.Test.YtkchfmhgboiimaaGreatProg
import Derived.Test.YtkchfmhgboiimaaGreatK10
import Derived.Test.YtkchfmhgboiimaaGreatK11
set_option linter.unusedSimpArgs false
set_option linter.unusedVariables false
namespace Go.Proofs.YtkchfmhgboiimaaGreat
open Go.RowKit Go.Shelf Go.Sort
attribute [local go_sem] Oper.semAt_some
def uptoI (f : Nat → Int) (k : Nat) : List Int := (List.range k).map f
theorem uptoI_succ (f : Nat → Int) (k : Nat) : uptoI f (k + 1) = uptoI f k ++ [f k] := by simp [uptoI, List.range_succ]
theorem uptoI_length (f : Nat → Int) (k : Nat) : (uptoI f k).length = k := by simp [uptoI]
theorem uptoI_all (zs : List Int) : uptoI (fun j => zs[j]?.getD 0) zs.length = zs := by
 apply List.ext_getElem
 ·simp [uptoI]
 ·intro i h1 h2
  simp [uptoI, h2]
theorem uptoI_take (zs : List Int) {k : Nat} (hk : k ≤ zs.length) : uptoI (fun j => zs[j]?.getD 0) k = zs.take k := by
 apply List.ext_getElem
 ·simp [uptoI, hk]
 ·intro i h1 h2; have : i < zs.length := by simp [uptoI] at h1; omega
  simp [uptoI, this]
set_option maxRecDepth 100000 in
set_option maxHeartbeats 2000000 in
theorem values1_in (F : Fence) (n : Nat) (h7 : F.fn 80) (hro : F.round = none) (hn : 1 ≤ n) (l Bs n₀ b off len cap : Nat) (zs : List Int) (hreach : len * 8 ≤ 140737488351232) (hb : b < n₀) (J Jx : List Int → World → Prop)
  (hY : ∀ pre x W, J pre W → pre.length < len → YieldAt F (n - 1) Tryz.prog l #[.int .i64 x] W fun e W' =>
   (e = .returned (.bool true) ∧ J (pre ++ [x]) W' ∧ Below n₀ W W') ∨ (e = .returned (.bool false) ∧ Jx (pre ++ [x]) W'))
  (W : World) (hBs : W.cell? ⟨Bs, 0, none⟩ = some (.slice (some ⟨b, off, none⟩) len cap)) (hc : ∀ j, j < len → W.cell? ⟨b, off + j, none⟩ = some (.int .i64 (zs[j]?.getD 0))) (h0 : J [] W) :
  CallsIn F n Tryz.prog 80 #[.func (.yield l) #[] #[], .pointer (some ⟨Bs, 0, none⟩)] W fun e W' => (∃ v, e = .returned v) ∧
   ((∃ ys, ys = uptoI (fun j => zs[j]?.getD 0) len ∧ J ys W') ∨ (∃ pre, (∃ k, k ≤ len ∧ pre = uptoI (fun j => zs[j]?.getD 0) k) ∧ Jx pre W')) := by
 refine callsIn_of_wp Tryz.func80 rfl h7 ?_ hro; simp only [Tryz.ntmps80, List.size_toArray, List.length_cons, List.length_nil, Nat.reduceAdd, Nat.reduceSub, Array.replicate_succ, Array.replicate_zero, List.push_toArray, List.append_toArray, List.nil_append, List.cons_append]
 gi_wp2
 gi_loopw [7] (fun i wr => ∃ k : Nat, k ≤ len ∧ i = .int .i64 k ∧ J (uptoI (fun j => zs[j]?.getD 0) k) wr ∧ Below n₀ W wr)
  (fun i _ => len - (intOf i).toNat)
 case atStart => exact ⟨0, Nat.zero_le _, rfl, h0, Below.refl _ _⟩
 case round =>
  obtain ⟨k, hk, rfl, hJs, hnx⟩ := hrel; have hcx : k < len → wr.cell? ⟨b, off + k, none⟩ = some (.int .i64 (zs[k]?.getD 0)) := fun h => (hnx.cell (p := ⟨b, off + k, none⟩) hb).trans (hc k h)
  by_cases hlt : k < len
  ·obtain ⟨fn, tmps, assign, body, hy, hR⟩ := hY _ (zs[k]?.getD 0) wr hJs (by rw [uptoI_length]; exact hlt); have hcx' := hcx hlt
   gi_wp2
   refine hR.mono ?_; rintro e W3 (⟨rfl, hJ3, hk3⟩ | ⟨rfl, hJx3⟩)
   ·gi_wp2
    go_roundw
    case rel => exact ⟨k + 1, by omega, by simp, by rw [uptoI_succ]; exact hJ3, hnx.trans hk3⟩
    case measure => simp [intOf]; omega
   ·gi_wp2
    refine bodyPost_ret (results_none rfl _ _ _) rfl ?_; exact ⟨⟨_, rfl⟩, .inr ⟨_, ⟨k + 1, by omega, (uptoI_succ _ _).symm⟩, hJx3⟩⟩
  ·obtain rfl : k = len := by omega
   gi_wp2
   go_end0
   exact ⟨⟨_, rfl⟩, .inl ⟨_, rfl, hJs⟩⟩
set_option maxRecDepth 100000 in
set_option maxHeartbeats 1000000 in
theorem values1_nil_in (F : Fence) (n : Nat) (h7 : F.fn 80) (hro : F.round = none) (l Bs cap : Nat) (A : Option Addr) (J : List Int → World → Prop) (W : World) (hBs : W.cell? ⟨Bs, 0, none⟩ = some (.slice A 0 cap)) (h0 : J [] W) :
  CallsIn F n Tryz.prog 80 #[.func (.yield l) #[] #[], .pointer (some ⟨Bs, 0, none⟩)] W fun e W' => (∃ v, e = .returned v) ∧ J [] W' := by
 refine callsIn_of_wp Tryz.func80 rfl h7 ?_ hro; simp only [Tryz.ntmps80, List.size_toArray, List.length_cons, List.length_nil, Nat.reduceAdd, Nat.reduceSub, Array.replicate_succ, Array.replicate_zero, List.push_toArray, List.append_toArray, List.nil_append, List.cons_append]
 gi_wp2
 gi_loopw [7] (fun i wr => i = .int .i64 0 ∧ J [] wr) (fun _ _ => 0)
 case atStart => exact ⟨rfl, h0⟩
 case round =>
  obtain ⟨rfl, hJs⟩ := hrel
  gi_wp2
  go_end0
  exact ⟨⟨_, rfl⟩, hJs⟩
theorem values_stops (F : Fence) (n : Nat) (h7 : F.fn 80) (hro : F.round = none) (hn : 1 ≤ n) (Bs n₀ : Nat) (A : Option Addr) (cap : Nat) (zs : List Int) (hreach : zs.length * 8 ≤ 140737488351232) (w : World) (hBs : Bs < w.heap.size) (hn₀ : n₀ ≤ w.heap.size)
  (hc : w.cell? ⟨Bs, 0, none⟩ = some (.slice A zs.length cap)) (hI : zs ≠ [] → ∃ b off, A = some ⟨b, off, none⟩ ∧ b < n₀ ∧ ∀ j, j < zs.length → w.cell? ⟨b, off + j, none⟩ = some (.int .i64 (zs[j]?.getD 0))) :
  SeqStopsK F n Tryz.prog 80 #[.pointer (some ⟨Bs, 0, none⟩)] (fun x : Int => #[Value.int .i64 x]) (Below n₀) (fun ys => ys = zs) (fun pre => pre <+: zs) zs.length w := fun l J Jx W hW _ _ hY h0 => by
 have hc' := (hW.cell (p := ⟨Bs, 0, none⟩) hBs).trans hc
 by_cases hz : zs = []
 ·subst hz; exact (values1_nil_in F n h7 hro l Bs cap A J W hc' h0).mono fun e W' ⟨he, hj⟩ => ⟨he, .inl ⟨_, rfl, hj⟩⟩
 ·obtain ⟨b, off, rfl, hb, hcs⟩ := hI hz; refine (values1_in F n h7 hro hn l Bs n₀ b off zs.length cap zs hreach hb J Jx hY W hc' (fun j hj => (hW.cell (p := ⟨b, off + j, none⟩) (by show b < w.heap.size; omega)).trans (hcs j hj)) h0).mono ?_; rintro e W' ⟨he, ⟨ys, rfl, hj⟩ | ⟨pre, ⟨k, hk, rfl⟩, hj⟩⟩
  ·exact ⟨he, .inl ⟨_, uptoI_all zs, hj⟩⟩
  ·exact ⟨he, .inr ⟨_, by rw [uptoI_take zs hk]; exact List.take_prefix _ _, hj⟩⟩
theorem infI : (Tryz.prog.info? 3).map (fun i => (i.zero, i.size, i.bytes)) = some (some (.int .i64 0), 1, 8) := by kernel_rfl
set_option maxRecDepth 100000 in
set_option maxHeartbeats 2000000 in
theorem appendSeq_in (F : Fence) (n : Nat) (h3 : F.fn 110) (h7 : F.fn 80) (hro : F.round = none) (hn : 3 ≤ n) (Bs : Nat) (A : Option Addr) (cap : Nat) (zs : List Int) (hbytes : zs.length * 8 ≤ 140737488351232) (w : World)
  (hc : w.cell? ⟨Bs, 0, none⟩ = some (.slice A zs.length cap)) (hI : Rd w A (zs.map (Value.int .i64))) :
  CallsIn F n Tryz.prog 110 #[.slice none 0 0, .func (.func 80) #[] #[.pointer (some ⟨Bs, 0, none⟩)]] w fun e W' => ∃ v, e = .returned v ∧ W'.ownsRow w.heap.size 3 1 v zs.length (zs.map (Value.int .i64)) ∧ Below w.heap.size w W' := by
 have h1 : 1 ≤ n := by omega
 have hBs : Bs < w.heap.size := by
  rcases Nat.lt_or_ge Bs w.heap.size with h | h
  ·exact h
  ·unfold World.cell? at hc; simp [Array.getElem?_eq_none h] at hc
 have hI' : zs ≠ [] → ∃ b off, A = some ⟨b, off, none⟩ ∧ b < w.heap.size ∧ ∀ j, j < zs.length → w.cell? ⟨b, off + j, none⟩ = some (.int .i64 (zs[j]?.getD 0)) := fun hz => by
  obtain ⟨b, o, e, hlt, hcs⟩ := hI (by simpa using hz); exact ⟨b, o, e, hlt, fun j hj => hcs j _ (by simp [hj])⟩
 obtain ⟨i0, hi, hz0, hz1, hz2⟩ := info_parts infI; refine callsIn_of_wp_marks Tryz.func110 rfl h3 ?_ hro; simp only [Tryz.ntmps110, List.size_toArray, List.length_cons, List.length_nil, Nat.reduceAdd, Nat.reduceSub, Array.replicate_succ, Array.replicate_zero, List.push_toArray, List.append_toArray, List.nil_append, List.cons_append]
 gi_wp2
 have bO := Boxed.new w 23 (.slice none 0 0); have hB0 : Below w.heap.size w (w.alloc (.cells #[.slice none 0 0] 23)) := (Below.refl _ w).alloc (Nat.le_refl _) _; refine wpIn_rangeFunc_ownG hro h1 (gf := 80) (lb := #[.pointer (some ⟨Bs, 0, none⟩)]) rfl h7 (enters_of Tryz.func80 (by kernel_rfl) rfl)
  (values_stops F (n - 1) h7 hro (by omega) Bs w.heap.size A cap zs hbytes (w.alloc (.cells #[.slice none 0 0] 23)) (by simp; omega) (by simp) ((hB0.cell (p := ⟨Bs, 0, none⟩) hBs).trans hc) (fun hz => by obtain ⟨b, o, e, hlt, hcs⟩ := hI' hz; exact ⟨b, o, e, hlt, fun j hj => (hB0.cell (p := ⟨b, o + j, none⟩) hlt).trans (hcs j hj)⟩)) belowK_t (belowK_b (by simp)) (Below.refl _ _) (fun _ => rfl)
  (fun pre W => (∃ v, Boxed W w.heap.size 23 v ∧ W.ownsRow w.heap.size 3 1 v pre.length (pre.map (Value.int .i64)) ∧ True) ∧ Below w.heap.size w W)
  (fun _ _ _ => False)
  (OwnFrom.and (Own.from (holdsRow_own w.heap.size w.heap.size 23 3 1 (fun pre : List Int => pre.length) (fun pre => pre.map (Value.int .i64)) (fun _ _ => True)) _) (ownFrom_below (Nat.le_refl _) (by simp)))
  (fun _ _ _ _ _ hs _ _ => hs)
  ⟨⟨_, bO, World.ownsRow_nil _ _ _ _, trivial⟩, hB0⟩
  (fun x => { tmps := #[.slice none 0 0, .func (.func 80) #[] #[.pointer (some ⟨Bs, 0, none⟩)], .pointer (some ⟨w.heap.size, 0, none⟩), undef, .slice none 0 0, .int .i64 x, .func (.func 80) #[] #[.pointer (some ⟨Bs, 0, none⟩)], .int .i64 x, undef, undef, undef, undef, undef], defers := [] }) ?assign ?body ?done ?stop
 case assign =>
  intro l x W K hK
  gi_wp2
  exact hK
 case body =>
  rintro l pre x W ⟨⟨v, hv, hrow, _⟩, hB⟩ hlt; have hc := hv.cell
  gi_wp2_with (gi_at_builtin; refine wpListIn_append_own _ rfl _ _ 23 rfl w.heap.size 3 i0 (.int .i64 0) 1 8 Tryz.underlying23 hi hz0 hz1 hz2 rfl (by decide) _ _ _ rfl (hrow.alloc _) ⟨W.heap.size, 0, none⟩ 1 1 [.int .i64 x] rfl rfl (cell_one_new _ _ _) (by simp [Value.oneCell']) (by unfold maxLen; omega) (by omega) (by have := hB.size; simp; omega) ?_; intro v' w1 hown' hgrow _; obtain ⟨g', cap', rfl⟩ := ownsRow_succ hown'; obtain ⟨hv1, hv2, hr2, hk2, hb2⟩ := hv.appended (by decide) hrow hB.size (Nat.le_refl _) hown' hgrow; have hc1 := hv1.cell; have hf1 := hv1.frozen)
  exact ⟨hk2.from _, hb2, ⟨_, hv2, by simpa using hr2, trivial⟩, hB.trans hb2⟩
 case done =>
  rintro D ys W hD rfl ⟨⟨v, hv, hrow, _⟩, hB⟩ hK; have hc := hv.cell
  gi_wp2
  refine ⟨by simp, .inl ⟨_, _, rfl, run_takeDeferred hK, ?_⟩⟩; exact ⟨_, results_tmp rfl _ _ _, v, rfl, ownsRow_putObj hrow _ hK rfl, hB.trans (belowK_b (w := w) (Nat.le_refl _) W D _ _ (by simp at hD; omega) hK rfl rfl)⟩
 case stop =>
  rintro D c pre W _ _ h _; exact h.elim
theorem own_form' {w : World} {base : Nat} {e : TypeId} {v : Value} {n : Nat} {xs : List Value} (h : w.ownsRow base e 1 v n xs) : ∃ A c, v = .slice A n c ∧ n ≤ c ∧ c ≤ maxLen := by
 rcases h.2 with ⟨rfl, h0⟩ | ⟨g, cap, cur, rfl, _, _, hle, hcap, _⟩
 ·exact ⟨none, 0, by rw [h0], by omega, Nat.zero_le _⟩
 ·exact ⟨_, _, rfl, hle, hcap⟩
theorem sort_own {base : Nat} {e : TypeId} {w : World} {A : Option Addr} {c n : Nat} {zs : List Int} (h : w.ownsRow base e 1 (.slice A n c) n (zs.map (Value.int .i64))) (hb : base ≤ w.heap.size) (hl : zs.length < 4611686018427387904) :
  Calls Tryz.prog 47 #[.slice A n c] w fun r w' => r = .returned (.tuple #[]) ∧ w'.ownsRow base e 1 (.slice A n c) n ((srtI zs).map (Value.int .i64)) ∧ Below base w w' := by
 obtain rfl : n = zs.length := by have := h.1; simp at this; omega
 rcases h.2 with ⟨hv, h0⟩ | ⟨g, cap, cur, hv, hbg, hh, hle, hcap, hsz, htk⟩
 ·have hz : zs = [] := List.eq_nil_of_length_eq_zero h0; subst hz; refine (Tryz.slices_Sort_int_none A c w).mono ?_; rintro r w' ⟨rfl, rfl⟩; exact ⟨rfl, h, Below.refl _ _⟩
 ·injection hv with e1 e2 e3
  subst e1 e3; rw [Nat.mul_one] at htk; have hs := Tryz.slices_Sort_int g 0 c zs w (holds_of_blockI hh htk) (Array.getElem?_eq_some_iff.1 hh).1 hl; rw [srt_merge] at hs; refine hs.mono ?_; rintro r w' ⟨rfl, q, os, rfl⟩; exact ⟨rfl, ownsRow_sortedI (srtI_len zs) hbg hh hle hcap hsz, (Below.refl _ _).grown (grownBy_sortedI _) hb (fun k hk => by cases hk; exact hbg)⟩
set_option maxRecDepth 100000 in
set_option maxHeartbeats 2000000 in
theorem collect_in (n : Nat) (hn : 4 ≤ n) (Bs : Nat) (A : Option Addr) (cap : Nat) (zs : List Int) (hbytes : zs.length * 8 ≤ 140737488351232) (w : World)
  (hc : w.cell? ⟨Bs, 0, none⟩ = some (.slice A zs.length cap)) (hI : Rd w A (zs.map (Value.int .i64))) :
  CallsIn Fence.wide n Tryz.prog 79 #[.func (.func 80) #[] #[.pointer (some ⟨Bs, 0, none⟩)]] w fun e W' => ∃ v, e = .returned v ∧ W'.ownsRow w.heap.size 3 1 v zs.length (zs.map (Value.int .i64)) ∧ Below w.heap.size w W' := by
 have h1 : 1 ≤ n := by omega
 refine callsIn_of_wp Tryz.func79 rfl trivial ?_ rfl; simp only [Tryz.ntmps79, List.size_toArray, List.length_cons, List.length_nil, Nat.reduceAdd, Nat.reduceSub, Array.replicate_succ, Array.replicate_zero, List.push_toArray, List.append_toArray, List.nil_append, List.cons_append]
 gi_wp2_with (refine ⟨trivial, ?_⟩; gi_at_call 110; refine (appendSeq_in Fence.wide (n - 1) trivial trivial rfl (by omega) Bs A cap zs hbytes w hc hI).mono ?_; rintro e w1 ⟨v, rfl, hown, hb⟩)
 go_ret
 exact ⟨v, rfl, hown, hb⟩
set_option maxRecDepth 100000 in
set_option maxHeartbeats 2000000 in
theorem sorted_any (Bs : Nat) (A : Option Addr) (cap : Nat) (zs : List Int) (hl : zs.length * 8 ≤ 140737488351232) (w : World)
  (hc : w.cell? ⟨Bs, 0, none⟩ = some (.slice A zs.length cap)) (hI : Rd w A (zs.map (Value.int .i64))) :
  Calls Tryz.prog 49 #[.func (.func 80) #[] #[.pointer (some ⟨Bs, 0, none⟩)]] w fun r w' => ∃ A' c', r = .returned (.slice A' zs.length c') ∧ Below w.heap.size w w' ∧ w'.ownsRow w.heap.size 3 1 (.slice A' zs.length c') zs.length ((srtI zs).map (Value.int .i64)) := by
 refine (callsIn_wide (n := 8)).1 ?_; refine callsIn_of_wp Tryz.func49 rfl trivial ?_ rfl; simp only [Tryz.ntmps49, List.size_toArray, List.length_cons, List.length_nil, Nat.reduceAdd, Nat.reduceSub, Array.replicate_succ, Array.replicate_zero, List.push_toArray, List.append_toArray, List.nil_append, List.cons_append]
 gi_wp2_with (first
  | (refine ⟨trivial, ?_⟩; gi_at_call 79; refine (collect_in _ (by omega) Bs A cap zs hl w hc hI).mono ?_; rintro e w1 ⟨v, rfl, hown, hb⟩; obtain ⟨A', c', rfl, _, _⟩ := own_form' hown)
  | (refine ⟨trivial, ?_⟩; gi_at_call 47; refine (callsIn_wide.2 (sort_own hown hb.size (by omega))).mono ?_; rintro e w2 ⟨rfl, hown2, hb2⟩))
 go_ret
 exact ⟨A', c', rfl, hb.trans hb2, hown2⟩
section
variable {S0 S : Nat → Prop} {w0 w w' : World} {n : Nat} {K : List (Nat × Value)} {E : List Iz} {Q : Exit → Act → World → Prop} {o : Oper} {Kx : Act → World → Prop}
theorem srd (d i g : Nat) (A : Option Addr) (c : Nat) (l : List Int) {t : TypeId} {r : List Int} (hr : Fa E (RowC A c c_i64 tr l)) (hy : srtA l = some r)
  (h : ∀ A' c', Ge S0 w0 n ((d, .slice A' r.length c') :: K) (.own 3 1 (.slice A' r.length c') r.length (r.flatMap c_i64) :: E) Kx) (hi : E[i]? = some (.blk g t [.slice A l.length c]) := by kernel_rfl)
  (he : ∀ J, sx Tryz.prog (execOp (rho K J) o) [] = some (.enter 49 [Value.func (.func 80) #[] #[.pointer (some ⟨g, 0, none⟩)]].toArray, []) := by intro J; kernel_rfl) (hd : o.dst = some d := by kernel_rfl) (hn : Nat.blt d n = true := by kernel_rfl) : Ge S0 w0 n K E (oW Tryz.prog o Q Kx) := by
 obtain ⟨hb, rfl⟩ := srtA_some hy; refine cow d (fun w S hE => ?_) h he hd hn; have hblk := Ez.blk hE hi; have := sorted_any g A c l hb w (by rw [hblk.cell]; rfl) (by have := (hr _ _ _ _ hE).r.r; rwa [flat_i] at this); rw [flat_i, srtI_len]; exact this
end
end Go.Proofs.YtkchfmhgboiimaaGreat
namespace Go.Proofs.YtkchfmhgboiimaaGreat
open Go.RowKit Go.Maps
section
variable {S0 S : Nat → Prop} {w0 w w' : World} {n : Nat} {K : List (Nat × Value)} {E : List Iz} {Q : Exit → Act → World → Prop} {o : Oper} {Kx : Act → World → Prop}
set_option maxRecDepth 100000 in
set_option maxHeartbeats 1000000 in
theorem cln_KSint (d : Nat) (A : Option Addr) (c : Nat) (l : List Int) (hr : Fa E (RowC A c c_i64 tr l)) (hb : l.length * 8 ≤ 140737488355328)
  (h : ∀ A' c', Ge S0 w0 n ((d, .slice A' l.length c') :: K) (.own 3 1 (.slice A' l.length c') l.length (l.flatMap c_i64) :: E) Kx)
  (he : ∀ J, sx Tryz.prog (execOp (rho K J) o) [] = some (.enter 53 #[.slice A l.length c], []) := by intro J; kernel_rfl) (hd : o.dst = some d := by kernel_rfl) (hn : Nat.blt d n = true := by kernel_rfl) : Ge S0 w0 n K E (oW Tryz.prog o Q Kx) := by
 have hy : apG 8 ([] : List Int) l = some l := by unfold apG; rw [if_pos (by simpa using hb)]; rfl
 refine ci d (args := [.slice A l.length c]) (fun E' e' w => ∃ A' c', Rs S0 w0 (.slice A' l.length c') (.own 3 1 (.slice A' l.length c') l.length (l.flatMap c_i64) :: E') True e' w) Tryz.func53 rfl rfl ?_ ?_ (by kernel_rfl) he hd hn
 ·cases A with
  | none =>
   intro a w S hK hE; have h0 : l = [] := by
    cases l with
    | nil => rfl
    | cons x l => obtain ⟨b, o, h1, _⟩ := (hr _ _ _ _ hE).r.r (by simp [c_i64]); cases h1
   subst h0; refine (?_ : Ge S0 w0 _ _ E _) a w S hK hE; clear hK hE a w S; refine sq ?_; refine rg ?_; refine ra [] f0 [] ?_; refine tN ?_; refine sq ?_; refine sq ?_; refine rg ?_; refine ra [] f0 [(4, B true)] ?_; refine tN ?_; refine ct ?_; refine sq ?_; refine rg ?_; refine ra [] f0 [(2, .slice none 0 0)] ?_; refine tN ?_; refine kR ?_; refine tR ?_; refine on 3 1 ?_; refine ri [] (.slice none 0 0) ?_; exact fun a w S hK hE => ⟨none, 0, rfl, ⟨S, hE⟩, trivial⟩
  | some a0 =>
   refine sq ?_; refine rg ?_; refine ra [] f0 [] ?_; refine tN ?_; refine sq ?_; refine sq ?_; refine rg ?_; refine ra [] f0 [(4, B false)] ?_; refine tN ?_; refine cf ?_; refine kS ?_; refine tN ?_; refine sq ?_; refine rg ?_; refine l1 ?_; refine nw 5 (vs 0) [] 3 fun g => ?_
   refine bo 0 1 0 g 3 [] ?_; refine rn 1 [] f0 [(6, .slice (some a0) l.length c)] ?_; refine l1 ?_; refine ap 0 7 (some ⟨g, 0, none⟩) 0 [] l inf23 (fun _ _ _ _ hE => hr _ _ _ _ (Es.drop hE (List.sublist_cons_self _ _))) hy one_i64 fun A' c' _ => ?_
   refine ra [] f0 [(2, .slice A' l.length c')] ?_; refine tN ?_; refine kR ?_; refine ri [] (.slice A' l.length c') ?_; exact fun a w S hK hE => ⟨A', c', rfl, ⟨S, hE⟩, trivial⟩
 ·rintro e' w ⟨A', c', hJ⟩; exact hJ.go fun _ => h A' c'
end
section
variable {S0 S : Nat → Prop} {w0 w w' : World} {n : Nat} {K : List (Nat × Value)} {E : List Iz} {Q : Exit → Act → World → Prop} {o : Oper} {Kx : Act → World → Prop}
set_option maxRecDepth 100000 in
set_option maxHeartbeats 1000000 in
theorem cln_KSapi_Copy (d : Nat) (A : Option Addr) (c : Nat) (l : List KCopyL) (hr : Fa E (RowC A c KCopyL.cells tr l)) (hb : l.length * 32 ≤ 140737488355328)
  (h : ∀ A' c', Ge S0 w0 n ((d, .slice A' l.length c') :: K) (.own 40 2 (.slice A' l.length c') l.length (l.flatMap KCopyL.cells) :: E) Kx)
  (he : ∀ J, sx Tryz.prog (execOp (rho K J) o) [] = some (.enter 29 #[.slice A l.length c], []) := by intro J; kernel_rfl) (hd : o.dst = some d := by kernel_rfl) (hn : Nat.blt d n = true := by kernel_rfl) : Ge S0 w0 n K E (oW Tryz.prog o Q Kx) := by
 have hy : apG 32 ([] : List KCopyL) l = some l := by unfold apG; rw [if_pos (by simpa using hb)]; rfl
 refine ci d (args := [.slice A l.length c]) (fun E' e' w => ∃ A' c', Rs S0 w0 (.slice A' l.length c') (.own 40 2 (.slice A' l.length c') l.length (l.flatMap KCopyL.cells) :: E') True e' w) Tryz.func29 rfl rfl ?_ ?_ (by kernel_rfl) he hd hn
 ·cases A with
  | none =>
   intro a w S hK hE; have h0 : l = [] := by
    cases l with
    | nil => rfl
    | cons x l => obtain ⟨b, o, h1, _⟩ := (hr _ _ _ _ hE).r.r (by simp [KCopyL.cells]); cases h1
   subst h0; refine (?_ : Ge S0 w0 _ _ E _) a w S hK hE; clear hK hE a w S; refine sq ?_; refine rg ?_; refine ra [] f0 [] ?_; refine tN ?_; refine sq ?_; refine sq ?_; refine rg ?_; refine ra [] f0 [(4, B true)] ?_; refine tN ?_; refine ct ?_; refine sq ?_; refine rg ?_; refine ra [] f0 [(2, .slice none 0 0)] ?_; refine tN ?_; refine kR ?_; refine tR ?_; refine on 40 2 ?_; refine ri [] (.slice none 0 0) ?_; exact fun a w S hK hE => ⟨none, 0, rfl, ⟨S, hE⟩, trivial⟩
  | some a0 =>
   refine sq ?_; refine rg ?_; refine ra [] f0 [] ?_; refine tN ?_; refine sq ?_; refine sq ?_; refine rg ?_; refine ra [] f0 [(4, B false)] ?_; refine tN ?_; refine cf ?_; refine kS ?_; refine tN ?_; refine sq ?_; refine rg ?_; refine l1 ?_; refine nw 5 (vs 0) [] 40 fun g => ?_
   refine bo 0 2 0 g 40 [] ?_; refine rn 1 [] f0 [(6, .slice (some a0) l.length c)] ?_; refine l1 ?_; refine ap 0 7 (some ⟨g, 0, none⟩) 0 [] l inf22 (fun _ _ _ _ hE => hr _ _ _ _ (Es.drop hE (List.sublist_cons_self _ _))) hy KCopyL.one fun A' c' _ => ?_
   refine ra [] f0 [(2, .slice A' l.length c')] ?_; refine tN ?_; refine kR ?_; refine ri [] (.slice A' l.length c') ?_; exact fun a w S hK hE => ⟨A', c', rfl, ⟨S, hE⟩, trivial⟩
 ·rintro e' w ⟨A', c', hJ⟩; exact hJ.go fun _ => h A' c'
end
section
variable {S0 S : Nat → Prop} {w0 w w' : World} {n : Nat} {K : List (Nat × Value)} {E : List Iz} {Q : Exit → Act → World → Prop} {o : Oper} {Kx : Act → World → Prop}
set_option maxRecDepth 100000 in
set_option maxHeartbeats 1000000 in
theorem cln_KSapi_Tx (d : Nat) (A : Option Addr) (c : Nat) (l : List KTxL) (hr : Fa E (RowC A c KTxL.cells tr l)) (hb : l.length * 64 ≤ 140737488355328)
  (h : ∀ A' c', Ge S0 w0 n ((d, .slice A' l.length c') :: K) (.own 47 4 (.slice A' l.length c') l.length (l.flatMap KTxL.cells) :: E) Kx)
  (he : ∀ J, sx Tryz.prog (execOp (rho K J) o) [] = some (.enter 31 #[.slice A l.length c], []) := by intro J; kernel_rfl) (hd : o.dst = some d := by kernel_rfl) (hn : Nat.blt d n = true := by kernel_rfl) : Ge S0 w0 n K E (oW Tryz.prog o Q Kx) := by
 have hy : apG 64 ([] : List KTxL) l = some l := by unfold apG; rw [if_pos (by simpa using hb)]; rfl
 refine ci d (args := [.slice A l.length c]) (fun E' e' w => ∃ A' c', Rs S0 w0 (.slice A' l.length c') (.own 47 4 (.slice A' l.length c') l.length (l.flatMap KTxL.cells) :: E') True e' w) Tryz.func31 rfl rfl ?_ ?_ (by kernel_rfl) he hd hn
 ·cases A with
  | none =>
   intro a w S hK hE; have h0 : l = [] := by
    cases l with
    | nil => rfl
    | cons x l => obtain ⟨b, o, h1, _⟩ := (hr _ _ _ _ hE).r.r (by simp [KTxL.cells]); cases h1
   subst h0; refine (?_ : Ge S0 w0 _ _ E _) a w S hK hE; clear hK hE a w S; refine sq ?_; refine rg ?_; refine ra [] f0 [] ?_; refine tN ?_; refine sq ?_; refine sq ?_; refine rg ?_; refine ra [] f0 [(4, B true)] ?_; refine tN ?_; refine ct ?_; refine sq ?_; refine rg ?_; refine ra [] f0 [(2, .slice none 0 0)] ?_; refine tN ?_; refine kR ?_; refine tR ?_; refine on 47 4 ?_; refine ri [] (.slice none 0 0) ?_; exact fun a w S hK hE => ⟨none, 0, rfl, ⟨S, hE⟩, trivial⟩
  | some a0 =>
   refine sq ?_; refine rg ?_; refine ra [] f0 [] ?_; refine tN ?_; refine sq ?_; refine sq ?_; refine rg ?_; refine ra [] f0 [(4, B false)] ?_; refine tN ?_; refine cf ?_; refine kS ?_; refine tN ?_; refine sq ?_; refine rg ?_; refine l1 ?_; refine nw 5 (vs 0) [] 47 fun g => ?_
   refine bo 0 4 0 g 47 [] ?_; refine rn 1 [] f0 [(6, .slice (some a0) l.length c)] ?_; refine l1 ?_; refine ap 0 7 (some ⟨g, 0, none⟩) 0 [] l inf38 (fun _ _ _ _ hE => hr _ _ _ _ (Es.drop hE (List.sublist_cons_self _ _))) hy KTxL.one fun A' c' _ => ?_
   refine ra [] f0 [(2, .slice A' l.length c')] ?_; refine tN ?_; refine kR ?_; refine ri [] (.slice A' l.length c') ?_; exact fun a w S hK hE => ⟨A', c', rfl, ⟨S, hE⟩, trivial⟩
 ·rintro e' w ⟨A', c', hJ⟩; exact hJ.go fun _ => h A' c'
end
end Go.Proofs.YtkchfmhgboiimaaGreat
namespace Go.Proofs.YtkchfmhgboiimaaGreat
open Go.RowKit Go.Maps
def G_cmp_isNaN_int (F : Nat) (p_0 : Int) : Option (Bool) :=
 some (!(p_0 == p_0))
set_option maxRecDepth 100000 in
set_option maxHeartbeats 16000000 in
theorem z_cmp_isNaN_int (F : Nat) (p_0 : Int) (r : Bool) (hG : G_cmp_isNaN_int F p_0 = some r) :
  Cf Tryz.prog 64 [I p_0] [] (B r) := by
 unfold G_cmp_isNaN_int at hG
 try (simp only [un2, un3, un4, un5, un6, un7, un8, Sum.elim_inl, Sum.elim_inr, List.length_map, KCopyL.n_Log] at hG; replace hG : _ = _ := hG)
 refine fi Tryz.func64 rfl rfl m0 fun S0 w0 hT => ?_
 refine sq ?_; refine rg ?_; refine ra [] f0 [] ?_; refine tN ?_; refine sq ?_; refine rg ?_; refine ra [] f0 [(2, B (!(p_0 == p_0)))] ?_; refine tN ?_; refine kR ?_; obtain rfl := Option.some.inj hG; exact rt []
def G_copies_size (F : Nat) (p_0 : KCopy) : Option (Int) :=
 some ((p_0.Log.length : Nat) : Int)
set_option maxRecDepth 100000 in
set_option maxHeartbeats 16000000 in
theorem z_copies_size (F : Nat) (p_0 : KCopyL) (r : Int) (hG : G_copies_size F p_0.p = some r) :
  Cf Tryz.prog 30 [.agg #[I p_0.ID, .slice p_0.Log_A p_0.Log.length p_0.Log_c]] [KCopyL.ok p_0] (I r) := by
 unfold G_copies_size at hG
 try (simp only [un2, un3, un4, un5, un6, un7, un8, Sum.elim_inl, Sum.elim_inr, List.length_map, KCopyL.n_Log] at hG; replace hG : _ = _ := hG)
 refine fi Tryz.func30 rfl rfl (mc KCopyL.mv m0) fun S0 w0 hT => ?_
 refine sq ?_; refine rg ?_; refine l1 ?_; refine nw 1 vp [I p_0.ID, .slice p_0.Log_A p_0.Log.length p_0.Log_c] 40 fun g_1 => ?_
 refine ra [] f0 [] ?_; refine tN ?_; refine sq ?_; refine rg ?_; refine ra [(1, 1, 0, 1)] f0 [(2, I ((p_0.Log.length : Nat) : Int))] ?_; refine tN ?_; refine kR ?_; obtain rfl := Option.some.inj hG; exact rt []
def G_copies_Valid_3 (F : Nat) (p_0 : KTx) : Option (Int) :=
 some p_0.Ts
set_option maxRecDepth 100000 in
set_option maxHeartbeats 16000000 in
theorem z_copies_Valid_3 (F : Nat) (p_0 : KTxL) (r : Int) (hG : G_copies_Valid_3 F p_0.p = some r) :
  Cf Tryz.prog 44 [.agg #[I p_0.ID, I p_0.Ts, .slice p_0.Reads_A p_0.Reads.length p_0.Reads_c, .slice p_0.Writes_A p_0.Writes.length p_0.Writes_c]] [KTxL.ok p_0] (I r) := by
 unfold G_copies_Valid_3 at hG
 try (simp only [un2, un3, un4, un5, un6, un7, un8, Sum.elim_inl, Sum.elim_inr, List.length_map, KCopyL.n_Log] at hG; replace hG : _ = _ := hG)
 refine fi Tryz.func44 rfl rfl (mc KTxL.mv m0) fun S0 w0 hT => ?_
 refine sq ?_; refine rg ?_; refine l1 ?_; refine nw 1 vp [I p_0.ID, I p_0.Ts, .slice p_0.Reads_A p_0.Reads.length p_0.Reads_c, .slice p_0.Writes_A p_0.Writes.length p_0.Writes_c] 47 fun g_1 => ?_
 refine ra [] f0 [] ?_; refine tN ?_; refine sq ?_; refine rg ?_; refine ra [(1, 1, 0, 1)] f0 [(2, I p_0.Ts)] ?_; refine tN ?_; refine kR ?_; obtain rfl := Option.some.inj hG; exact rt []
def G_slices_Equal_api_Seen_api_Seen (F : Nat) (p_0 : List KSeen) (p_1 : List KSeen) : Option (Bool) :=
  ifB ((((p_0.length : Nat) : Int) == ((p_1.length : Nat) : Int)))
    (Option.bind (Option.bind (iter (σ := Int) (ρ := Unit ⊕ Unit) (fun (v_19 : Int) => 
          (ifB (decide (v_19 < ((p_0.length : Nat) : Int)))
            (Option.bind (ixI p_0 v_19) (fun v_22 =>
            Option.bind (ixI p_1 v_19) (fun v_25 =>
            ifB (decide (v_22 = v_25))
              (some (.inl (IntKind.i64.wrap (v_19 + 1))))
              (some (.inr (.inr ()))))))
            (some (.inr (.inl ()))) : Option (Int ⊕ (Unit ⊕ Unit)))) F 0) (Sum.elim (fun (_ : Unit) => 
        some (.inl ())) (fun (_ : Unit) => 
        some (.inr ()))) : Option (Unit ⊕ Unit)) (Sum.elim (fun (_ : Unit) => 
      some true) (fun (_ : Unit) => 
      some false)))
    (some false)
set_option maxRecDepth 100000 in
set_option maxHeartbeats 16000000 in
theorem z_slices_Equal_api_Seen_api_Seen (F : Nat) (p_0_A : Option Addr) (p_0_c : Nat) (p_0 : List KSeen) (p_1_A : Option Addr) (p_1_c : Nat) (p_1 : List KSeen) (r : Bool) (hG : G_slices_Equal_api_Seen_api_Seen F p_0 p_1 = some r) :
  Cf Tryz.prog 65 [.slice p_0_A p_0.length p_0_c, .slice p_1_A p_1.length p_1_c] [RowC p_0_A p_0_c KSeen.cells tr p_0, RowC p_1_A p_1_c KSeen.cells tr p_1] (B r) := by
 unfold G_slices_Equal_api_Seen_api_Seen at hG
 try (simp only [un2, un3, un4, un5, un6, un7, un8, Sum.elim_inl, Sum.elim_inr, List.length_map, KCopyL.n_Log] at hG; replace hG : _ = _ := hG)
 refine fi Tryz.func65 rfl rfl (mr tr_mv (mr tr_mv m0)) fun S0 w0 hT => ?_
 refine sq ?_; refine rg ?_; refine ra [] f0 [] ?_; refine tN ?_; refine sq ?_; refine sq ?_; refine rg ?_; refine ra [] f0 [(10, B (!(((p_0.length : Nat) : Int) == ((p_1.length : Nat) : Int))))] ?_; refine tN ?_; rcases ifB_cases hG with ⟨h_1, hG⟩ | ⟨h_1, hG⟩
 ·try simp only [List.length_map, KCopyL.n_Log] at h_1
  refine sb 10 (nt h_1) ?_; refine cf ?_; refine kS ?_; refine tN ?_; obtain ⟨o_29, hG, hG_29⟩ := bind_some hG; refine jn (fun K E a w => Js S0 w0 26 (K) (se E []) (.inl () = o_29) a w) ?_ ?_
  ·refine sq ?_; refine rg ?_; refine ra [] f0 [(12, I ((p_0.length : Nat) : Int)), (13, I 0)] ?_; refine tN ?_; refine bk ?_; obtain ⟨e_20, hL, hG_20⟩ := bind_some hG; clear hG; obtain ⟨stp_20, hs_20, hL⟩ := iter_gen hL; refine lp (fun K E n_ a w => ∃ (v_19 : Int), Js S0 w0 26 ([(13, I v_19)] ++ K) (se E [0, 1]) (iter stp_20 n_ v_19 = some e_20) a w) F ?_ ?_
   ·exact fun a w S hK hE => ⟨0, S, hK.wk, hE.sel [0, 1], hL⟩
   ·clear hL; rintro n_20 a w ⟨v_19, hJ⟩; refine hJ.go fun hL => ?_
    clear hJ; obtain ⟨m_20, o_20, rfl, hG, hO1_20, hO2_20⟩ := iter_step hL; clear hL; rw [hs_20] at hG
    try (simp only [un2, un3, un4, un5, un6, un7, un8, Sum.elim_inl, Sum.elim_inr, List.length_map, KCopyL.n_Log] at hG; replace hG : _ = _ := hG)
    refine sq ?_; refine rg ?_; refine ra [] f0 [(14, B (decide (v_19 < ((p_0.length : Nat) : Int))))] ?_; refine tN ?_; refine sq ?_; rcases ifB_cases hG with ⟨h_21, hG⟩ | ⟨h_21, hG⟩
    ·try simp only [List.length_map, KCopyL.n_Log] at h_21
     refine sb 14 (bt h_21) ?_; refine ct ?_; refine kS ?_; refine tN ?_; refine sq ?_; refine bk ?_; refine sq ?_; refine rg ?_; refine ra [] f0 [(5, I v_19)] ?_; refine tN ?_; refine sq ?_; replace hG := bind_some hG; obtain ⟨v_22, hy_22, hG⟩ := hG; replace hG := bind_some hG; obtain ⟨v_25, hy_25, hG⟩ := hG; refine qb ?_; refine fx inf44 (gd' (RowC p_0_A p_0_c KSeen.cells tr p_0) 0) hy_22 fun b_23 o_24 hi_22 => ?_
     refine fx inf44 (gd' (RowC p_1_A p_1_c KSeen.cells tr p_1) 2) hy_25 fun b_26 o_27 hi_25 => ?_
     refine qa [(2, 0, 0, 0), (0, 2, 1, 0), (2, 0, 0, 0), (0, 2, 0, 0), (0, 0, 0, 0)] (fc (hi_22 .i64) (fc (hi_25 .i64) (fc (neq_KSeen v_22 v_25) f0))) [(24, B (!(decide (v_22 = v_25))))] ?_; refine tN ?_; rcases ifB_cases hG with ⟨h_28, hG⟩ | ⟨h_28, hG⟩
     ·refine sb 24 (nt h_28) ?_; refine cf ?_; refine kS ?_; refine hN ?_; refine tN ?_; refine rg ?_; refine ra [] f0 [(13, I (IntKind.i64.wrap (v_19 + 1)))] ?_; refine tN ?_; exact fun a w S hK hE => ⟨m_20, ⟨IntKind.i64.wrap (v_19 + 1), S, hK.wk, hE.sel [2, 3], hO1_20 _ (Option.some.inj hG).symm⟩, Nat.lt_succ_self _⟩
     ·refine sb 24 (nf h_28) ?_; refine ct ?_; refine sq ?_; refine rg ?_; refine ra [] f0 [(4, B false)] ?_; refine tN ?_; refine kR ?_; refine hR ?_; refine tR ?_; refine tR ?_; have he_ := hO2_20 _ (Option.some.inj hG).symm; subst he_; replace hG := hG_20
      try (simp only [un2, un3, un4, un5, un6, un7, un8, Sum.elim_inl, Sum.elim_inr, List.length_map, KCopyL.n_Log] at hG; replace hG : _ = _ := hG)
      refine hR ?_; refine tR ?_; obtain rfl := Option.some.inj hG; replace hG := hG_29
      try (simp only [un2, un3, un4, un5, un6, un7, un8, Sum.elim_inl, Sum.elim_inr, List.length_map, KCopyL.n_Log] at hG; replace hG : _ = _ := hG)
      obtain rfl := Option.some.inj hG; exact rt []
    ·try simp only [List.length_map, KCopyL.n_Log] at h_21
     refine sb 14 (bf h_21) ?_; refine cf ?_; refine kX ?_; refine tX ?_; refine tX ?_; have he_ := hO2_20 _ (Option.some.inj hG).symm; subst he_; replace hG := hG_20
     try (simp only [un2, un3, un4, un5, un6, un7, un8, Sum.elim_inl, Sum.elim_inr, List.length_map, KCopyL.n_Log] at hG; replace hG : _ = _ := hG)
     refine hH ?_; refine tN ?_; exact fun a w S hK hE => ⟨S, hK.wk, hE.sel [], Option.some.inj hG⟩
  ·rintro a w hJ; refine hJ.go fun ho_ => ?_
   clear hJ; subst ho_; replace hG := hG_29
   try (simp only [un2, un3, un4, un5, un6, un7, un8, Sum.elim_inl, Sum.elim_inr, List.length_map, KCopyL.n_Log] at hG; replace hG : _ = _ := hG)
   refine sq ?_; refine rg ?_; refine ra [] f0 [(4, B true)] ?_; refine tN ?_; refine kR ?_; obtain rfl := Option.some.inj hG; exact rt []
 ·try simp only [List.length_map, KCopyL.n_Log] at h_1
  refine sb 10 (nf h_1) ?_; refine ct ?_; refine sq ?_; refine rg ?_; refine ra [] f0 [(4, B false)] ?_; refine tN ?_; refine kR ?_; refine tR ?_; obtain rfl := Option.some.inj hG; exact rt []
def G_slices_Equal_api_Write_api_Write (F : Nat) (p_0 : List KWrite) (p_1 : List KWrite) : Option (Bool) :=
  ifB ((((p_0.length : Nat) : Int) == ((p_1.length : Nat) : Int)))
    (Option.bind (Option.bind (iter (σ := Int) (ρ := Unit ⊕ Unit) (fun (v_19 : Int) => 
          (ifB (decide (v_19 < ((p_0.length : Nat) : Int)))
            (Option.bind (ixI p_0 v_19) (fun v_22 =>
            Option.bind (ixI p_1 v_19) (fun v_25 =>
            ifB (decide (v_22 = v_25))
              (some (.inl (IntKind.i64.wrap (v_19 + 1))))
              (some (.inr (.inr ()))))))
            (some (.inr (.inl ()))) : Option (Int ⊕ (Unit ⊕ Unit)))) F 0) (Sum.elim (fun (_ : Unit) => 
        some (.inl ())) (fun (_ : Unit) => 
        some (.inr ()))) : Option (Unit ⊕ Unit)) (Sum.elim (fun (_ : Unit) => 
      some true) (fun (_ : Unit) => 
      some false)))
    (some false)
set_option maxRecDepth 100000 in
set_option maxHeartbeats 16000000 in
theorem z_slices_Equal_api_Write_api_Write (F : Nat) (p_0_A : Option Addr) (p_0_c : Nat) (p_0 : List KWrite) (p_1_A : Option Addr) (p_1_c : Nat) (p_1 : List KWrite) (r : Bool) (hG : G_slices_Equal_api_Write_api_Write F p_0 p_1 = some r) :
  Cf Tryz.prog 66 [.slice p_0_A p_0.length p_0_c, .slice p_1_A p_1.length p_1_c] [RowC p_0_A p_0_c KWrite.cells tr p_0, RowC p_1_A p_1_c KWrite.cells tr p_1] (B r) := by
 unfold G_slices_Equal_api_Write_api_Write at hG
 try (simp only [un2, un3, un4, un5, un6, un7, un8, Sum.elim_inl, Sum.elim_inr, List.length_map, KCopyL.n_Log] at hG; replace hG : _ = _ := hG)
 refine fi Tryz.func66 rfl rfl (mr tr_mv (mr tr_mv m0)) fun S0 w0 hT => ?_
 refine sq ?_; refine rg ?_; refine ra [] f0 [] ?_; refine tN ?_; refine sq ?_; refine sq ?_; refine rg ?_; refine ra [] f0 [(10, B (!(((p_0.length : Nat) : Int) == ((p_1.length : Nat) : Int))))] ?_; refine tN ?_; rcases ifB_cases hG with ⟨h_1, hG⟩ | ⟨h_1, hG⟩
 ·try simp only [List.length_map, KCopyL.n_Log] at h_1
  refine sb 10 (nt h_1) ?_; refine cf ?_; refine kS ?_; refine tN ?_; obtain ⟨o_29, hG, hG_29⟩ := bind_some hG; refine jn (fun K E a w => Js S0 w0 26 (K) (se E []) (.inl () = o_29) a w) ?_ ?_
  ·refine sq ?_; refine rg ?_; refine ra [] f0 [(12, I ((p_0.length : Nat) : Int)), (13, I 0)] ?_; refine tN ?_; refine bk ?_; obtain ⟨e_20, hL, hG_20⟩ := bind_some hG; clear hG; obtain ⟨stp_20, hs_20, hL⟩ := iter_gen hL; refine lp (fun K E n_ a w => ∃ (v_19 : Int), Js S0 w0 26 ([(13, I v_19)] ++ K) (se E [0, 1]) (iter stp_20 n_ v_19 = some e_20) a w) F ?_ ?_
   ·exact fun a w S hK hE => ⟨0, S, hK.wk, hE.sel [0, 1], hL⟩
   ·clear hL; rintro n_20 a w ⟨v_19, hJ⟩; refine hJ.go fun hL => ?_
    clear hJ; obtain ⟨m_20, o_20, rfl, hG, hO1_20, hO2_20⟩ := iter_step hL; clear hL; rw [hs_20] at hG
    try (simp only [un2, un3, un4, un5, un6, un7, un8, Sum.elim_inl, Sum.elim_inr, List.length_map, KCopyL.n_Log] at hG; replace hG : _ = _ := hG)
    refine sq ?_; refine rg ?_; refine ra [] f0 [(14, B (decide (v_19 < ((p_0.length : Nat) : Int))))] ?_; refine tN ?_; refine sq ?_; rcases ifB_cases hG with ⟨h_21, hG⟩ | ⟨h_21, hG⟩
    ·try simp only [List.length_map, KCopyL.n_Log] at h_21
     refine sb 14 (bt h_21) ?_; refine ct ?_; refine kS ?_; refine tN ?_; refine sq ?_; refine bk ?_; refine sq ?_; refine rg ?_; refine ra [] f0 [(5, I v_19)] ?_; refine tN ?_; refine sq ?_; replace hG := bind_some hG; obtain ⟨v_22, hy_22, hG⟩ := hG; replace hG := bind_some hG; obtain ⟨v_25, hy_25, hG⟩ := hG; refine qb ?_; refine fx inf45 (gd' (RowC p_0_A p_0_c KWrite.cells tr p_0) 0) hy_22 fun b_23 o_24 hi_22 => ?_
     refine fx inf45 (gd' (RowC p_1_A p_1_c KWrite.cells tr p_1) 2) hy_25 fun b_26 o_27 hi_25 => ?_
     refine qa [(2, 0, 0, 0), (0, 3, 1, 0), (2, 0, 0, 0), (0, 3, 0, 0), (0, 0, 0, 0)] (fc (hi_22 .i64) (fc (hi_25 .i64) (fc (neq_KWrite v_22 v_25) f0))) [(24, B (!(decide (v_22 = v_25))))] ?_; refine tN ?_; rcases ifB_cases hG with ⟨h_28, hG⟩ | ⟨h_28, hG⟩
     ·refine sb 24 (nt h_28) ?_; refine cf ?_; refine kS ?_; refine hN ?_; refine tN ?_; refine rg ?_; refine ra [] f0 [(13, I (IntKind.i64.wrap (v_19 + 1)))] ?_; refine tN ?_; exact fun a w S hK hE => ⟨m_20, ⟨IntKind.i64.wrap (v_19 + 1), S, hK.wk, hE.sel [2, 3], hO1_20 _ (Option.some.inj hG).symm⟩, Nat.lt_succ_self _⟩
     ·refine sb 24 (nf h_28) ?_; refine ct ?_; refine sq ?_; refine rg ?_; refine ra [] f0 [(4, B false)] ?_; refine tN ?_; refine kR ?_; refine hR ?_; refine tR ?_; refine tR ?_; have he_ := hO2_20 _ (Option.some.inj hG).symm; subst he_; replace hG := hG_20
      try (simp only [un2, un3, un4, un5, un6, un7, un8, Sum.elim_inl, Sum.elim_inr, List.length_map, KCopyL.n_Log] at hG; replace hG : _ = _ := hG)
      refine hR ?_; refine tR ?_; obtain rfl := Option.some.inj hG; replace hG := hG_29
      try (simp only [un2, un3, un4, un5, un6, un7, un8, Sum.elim_inl, Sum.elim_inr, List.length_map, KCopyL.n_Log] at hG; replace hG : _ = _ := hG)
      obtain rfl := Option.some.inj hG; exact rt []
    ·try simp only [List.length_map, KCopyL.n_Log] at h_21
     refine sb 14 (bf h_21) ?_; refine cf ?_; refine kX ?_; refine tX ?_; refine tX ?_; have he_ := hO2_20 _ (Option.some.inj hG).symm; subst he_; replace hG := hG_20
     try (simp only [un2, un3, un4, un5, un6, un7, un8, Sum.elim_inl, Sum.elim_inr, List.length_map, KCopyL.n_Log] at hG; replace hG : _ = _ := hG)
     refine hH ?_; refine tN ?_; exact fun a w S hK hE => ⟨S, hK.wk, hE.sel [], Option.some.inj hG⟩
  ·rintro a w hJ; refine hJ.go fun ho_ => ?_
   clear hJ; subst ho_; replace hG := hG_29
   try (simp only [un2, un3, un4, un5, un6, un7, un8, Sum.elim_inl, Sum.elim_inr, List.length_map, KCopyL.n_Log] at hG; replace hG : _ = _ := hG)
   refine sq ?_; refine rg ?_; refine ra [] f0 [(4, B true)] ?_; refine tN ?_; refine kR ?_; obtain rfl := Option.some.inj hG; exact rt []
 ·try simp only [List.length_map, KCopyL.n_Log] at h_1
  refine sb 10 (nf h_1) ?_; refine ct ?_; refine sq ?_; refine rg ?_; refine ra [] f0 [(4, B false)] ?_; refine tN ?_; refine kR ?_; refine tR ?_; obtain rfl := Option.some.inj hG; exact rt []
def G_copies_id (F : Nat) (p_0 : KCopy) : Option (Int) :=
 some p_0.ID
set_option maxRecDepth 100000 in
set_option maxHeartbeats 16000000 in
theorem z_copies_id (F : Nat) (p_0 : KCopyL) (r : Int) (hG : G_copies_id F p_0.p = some r) :
  Cf Tryz.prog 34 [.agg #[I p_0.ID, .slice p_0.Log_A p_0.Log.length p_0.Log_c]] [KCopyL.ok p_0] (I r) := by
 unfold G_copies_id at hG
 try (simp only [un2, un3, un4, un5, un6, un7, un8, Sum.elim_inl, Sum.elim_inr, List.length_map, KCopyL.n_Log] at hG; replace hG : _ = _ := hG)
 refine fi Tryz.func34 rfl rfl (mc KCopyL.mv m0) fun S0 w0 hT => ?_
 refine sq ?_; refine rg ?_; refine l1 ?_; refine nw 1 vp [I p_0.ID, .slice p_0.Log_A p_0.Log.length p_0.Log_c] 40 fun g_1 => ?_
 refine ra [] f0 [] ?_; refine tN ?_; refine sq ?_; refine rg ?_; refine ra [(1, 1, 0, 0)] f0 [(2, I p_0.ID)] ?_; refine tN ?_; refine kR ?_; obtain rfl := Option.some.inj hG; exact rt []
def G_copies_isTime (F : Nat) (p_0 : Int) : Option (Bool) :=
  Option.bind (ifB (decide (0 ≤ p_0))
      (some (decide (p_0 ≤ 3000000000000000)))
      (some false) : Option (Bool)) (fun (v_3 : Bool) => 
    some v_3)
set_option maxRecDepth 100000 in
set_option maxHeartbeats 16000000 in
theorem z_copies_isTime (F : Nat) (p_0 : Int) (r : Bool) (hG : G_copies_isTime F p_0 = some r) :
  Cf Tryz.prog 55 [I p_0] [] (B r) := by
 unfold G_copies_isTime at hG
 try (simp only [un2, un3, un4, un5, un6, un7, un8, Sum.elim_inl, Sum.elim_inr, List.length_map, KCopyL.n_Log] at hG; replace hG : _ = _ := hG)
 refine fi Tryz.func55 rfl rfl m0 fun S0 w0 hT => ?_
 refine sq ?_; refine rg ?_; refine ra [] f0 [] ?_; refine tN ?_; obtain ⟨o_2, hG, hG_2⟩ := bind_some hG; refine jn (fun K E a w => ∃ (v_3 : Bool), Js S0 w0 9 ([(2, B v_3)] ++ K) (se E []) (v_3 = o_2) a w) ?_ ?_
 ·replace hG := ifB_cases hG; rcases hG with ⟨h_1, hG⟩ | ⟨h_1, hG⟩
  ·refine rg ?_; refine rn 3 [] f0 [(5, B (decide (0 ≤ p_0)))] ?_; refine sb 5 (bt h_1) ?_; refine ra [] f0 [(2, B (decide (p_0 ≤ 3000000000000000)))] ?_; refine tN ?_; exact fun a w S hK hE => ⟨decide (p_0 ≤ 3000000000000000), S, hK.wk, hE.sel [], Option.some.inj hG⟩
  ·refine rg ?_; refine rn 3 [] f0 [(5, B (decide (0 ≤ p_0)))] ?_; refine sb 5 (bf h_1) ?_; refine ra [] f0 [(2, B false)] ?_; refine tN ?_; exact fun a w S hK hE => ⟨false, S, hK.wk, hE.sel [], Option.some.inj hG⟩
 ·rintro a w ⟨v_3, hJ⟩; refine hJ.go fun ho_ => ?_
  clear hJ; subst ho_; replace hG := hG_2
  try (simp only [un2, un3, un4, un5, un6, un7, un8, Sum.elim_inl, Sum.elim_inr, List.length_map, KCopyL.n_Log] at hG; replace hG : _ = _ := hG)
  refine kR ?_; obtain rfl := Option.some.inj hG; exact rt []
def G_copies_wrong_2 (F : Nat) (p_0 : KWrite) : Option (Bool) :=
  Option.bind (ifB (decide (p_0.Key > 1000))
      (some true)
      (ifB (decide (p_0.Value < 0))
        (some true)
        (ifB (decide (p_0.Value > 1000000))
          (some true)
          (ifB (p_0.Gone)
            (some (!(p_0.Value == 0)))
            (some false)))) : Option (Bool)) (fun (v_7 : Bool) => 
    some v_7)
set_option maxRecDepth 100000 in
set_option maxHeartbeats 16000000 in
theorem z_copies_wrong_2 (F : Nat) (p_0 : KWrite) (r : Bool) (hG : G_copies_wrong_2 F p_0 = some r) :
  Cf Tryz.prog 69 [.agg #[I p_0.Key, I p_0.Value, B p_0.Gone]] [] (B r) := by
 unfold G_copies_wrong_2 at hG
 try (simp only [un2, un3, un4, un5, un6, un7, un8, Sum.elim_inl, Sum.elim_inr, List.length_map, KCopyL.n_Log] at hG; replace hG : _ = _ := hG)
 refine fi Tryz.func69 rfl rfl m0 fun S0 w0 hT => ?_
 refine sq ?_; refine rg ?_; refine l1 ?_; refine nw 1 vp [I p_0.Key, I p_0.Value, B p_0.Gone] 52 fun g_1 => ?_
 refine ra [] f0 [] ?_; refine tN ?_; obtain ⟨o_6, hG, hG_6⟩ := bind_some hG; refine jn (fun K E a w => ∃ (v_7 : Bool), Js S0 w0 25 ([(2, B v_7)] ++ K) (se E []) (v_7 = o_6) a w) ?_ ?_
 ·replace hG := ifB_cases hG; rcases hG with ⟨h_2, hG⟩ | ⟨h_2, hG⟩
  ·refine rg ?_; refine rn 4 [(1, 1, 0, 0)] f0 [(6, B (decide (p_0.Key > 1000)))] ?_; refine sb 6 (bt h_2) ?_; refine ra [] f0 [(2, B true)] ?_; refine tN ?_; exact fun a w S hK hE => ⟨true, S, hK.wk, hE.sel [], Option.some.inj hG⟩
  ·replace hG := ifB_cases hG; rcases hG with ⟨h_3, hG⟩ | ⟨h_3, hG⟩
   ·refine rg ?_; refine rn 4 [(1, 1, 0, 0)] f0 [(6, B (decide (p_0.Key > 1000)))] ?_; refine sb 6 (bf h_2) ?_; refine rn 5 [(1, 1, 0, 1)] f0 [(11, B (decide (p_0.Value < 0)))] ?_; refine sb 11 (bt h_3) ?_; refine ra [] f0 [(2, B true)] ?_; refine tN ?_; exact fun a w S hK hE => ⟨true, S, hK.wk, hE.sel [], Option.some.inj hG⟩
   ·replace hG := ifB_cases hG; rcases hG with ⟨h_4, hG⟩ | ⟨h_4, hG⟩
    ·refine rg ?_; refine rn 4 [(1, 1, 0, 0)] f0 [(6, B (decide (p_0.Key > 1000)))] ?_; refine sb 6 (bf h_2) ?_; refine rn 5 [(1, 1, 0, 1)] f0 [(11, B (decide (p_0.Value < 0)))] ?_; refine sb 11 (bf h_3) ?_; refine rn 5 [(1, 1, 0, 1)] f0 [(16, B (decide (p_0.Value > 1000000)))] ?_; refine sb 16 (bt h_4) ?_; refine ra [] f0 [(2, B true)] ?_; refine tN ?_; exact fun a w S hK hE => ⟨true, S, hK.wk, hE.sel [], Option.some.inj hG⟩
    ·replace hG := ifB_cases hG; rcases hG with ⟨h_5, hG⟩ | ⟨h_5, hG⟩
     ·refine rg ?_; refine rn 4 [(1, 1, 0, 0)] f0 [(6, B (decide (p_0.Key > 1000)))] ?_; refine sb 6 (bf h_2) ?_; refine rn 5 [(1, 1, 0, 1)] f0 [(11, B (decide (p_0.Value < 0)))] ?_; refine sb 11 (bf h_3) ?_; refine rn 5 [(1, 1, 0, 1)] f0 [(16, B (decide (p_0.Value > 1000000)))] ?_; refine sb 16 (bf h_4) ?_; refine rn 3 [(1, 1, 0, 2)] f0 [(19, B p_0.Gone)] ?_; refine sb 19 (bt h_5) ?_; refine ra [(1, 1, 0, 1)] f0 [(2, B (!(p_0.Value == 0)))] ?_; refine tN ?_; exact fun a w S hK hE => ⟨!(p_0.Value == 0), S, hK.wk, hE.sel [], Option.some.inj hG⟩
     ·refine rg ?_; refine rn 4 [(1, 1, 0, 0)] f0 [(6, B (decide (p_0.Key > 1000)))] ?_; refine sb 6 (bf h_2) ?_; refine rn 5 [(1, 1, 0, 1)] f0 [(11, B (decide (p_0.Value < 0)))] ?_; refine sb 11 (bf h_3) ?_; refine rn 5 [(1, 1, 0, 1)] f0 [(16, B (decide (p_0.Value > 1000000)))] ?_; refine sb 16 (bf h_4) ?_; refine rn 3 [(1, 1, 0, 2)] f0 [(19, B p_0.Gone)] ?_; refine sb 19 (bf h_5) ?_; refine ra [] f0 [(2, B false)] ?_; refine tN ?_; exact fun a w S hK hE => ⟨false, S, hK.wk, hE.sel [], Option.some.inj hG⟩
 ·rintro a w ⟨v_7, hJ⟩; refine hJ.go fun ho_ => ?_
  clear hJ; subst ho_; replace hG := hG_6
  try (simp only [un2, un3, un4, un5, un6, un7, un8, Sum.elim_inl, Sum.elim_inr, List.length_map, KCopyL.n_Log] at hG; replace hG : _ = _ := hG)
  refine kR ?_; obtain rfl := Option.some.inj hG; exact rt []
def G_copies_wrong_3 (F : Nat) (p_0 : KSeen) : Option (Int) :=
 some p_0.Key
set_option maxRecDepth 100000 in
set_option maxHeartbeats 16000000 in
theorem z_copies_wrong_3 (F : Nat) (p_0 : KSeen) (r : Int) (hG : G_copies_wrong_3 F p_0 = some r) :
  Cf Tryz.prog 73 [.agg #[I p_0.Key, I p_0.Ts]] [] (I r) := by
 unfold G_copies_wrong_3 at hG
 try (simp only [un2, un3, un4, un5, un6, un7, un8, Sum.elim_inl, Sum.elim_inr, List.length_map, KCopyL.n_Log] at hG; replace hG : _ = _ := hG)
 refine fi Tryz.func73 rfl rfl m0 fun S0 w0 hT => ?_
 refine sq ?_; refine rg ?_; refine l1 ?_; refine nw 1 vp [I p_0.Key, I p_0.Ts] 90 fun g_1 => ?_
 refine ra [] f0 [] ?_; refine tN ?_; refine sq ?_; refine rg ?_; refine ra [(1, 1, 0, 0)] f0 [(2, I p_0.Key)] ?_; refine tN ?_; refine kR ?_; obtain rfl := Option.some.inj hG; exact rt []
def G_copies_wrong_4 (F : Nat) (p_0 : KWrite) : Option (Int) :=
 some p_0.Key
set_option maxRecDepth 100000 in
set_option maxHeartbeats 16000000 in
theorem z_copies_wrong_4 (F : Nat) (p_0 : KWrite) (r : Int) (hG : G_copies_wrong_4 F p_0 = some r) :
  Cf Tryz.prog 75 [.agg #[I p_0.Key, I p_0.Value, B p_0.Gone]] [] (I r) := by
 unfold G_copies_wrong_4 at hG
 try (simp only [un2, un3, un4, un5, un6, un7, un8, Sum.elim_inl, Sum.elim_inr, List.length_map, KCopyL.n_Log] at hG; replace hG : _ = _ := hG)
 refine fi Tryz.func75 rfl rfl m0 fun S0 w0 hT => ?_
 refine sq ?_; refine rg ?_; refine l1 ?_; refine nw 1 vp [I p_0.Key, I p_0.Value, B p_0.Gone] 52 fun g_1 => ?_
 refine ra [] f0 [] ?_; refine tN ?_; refine sq ?_; refine rg ?_; refine ra [(1, 1, 0, 0)] f0 [(2, I p_0.Key)] ?_; refine tN ?_; refine kR ?_; obtain rfl := Option.some.inj hG; exact rt []
def G_copies_find (F : Nat) (p_0 : List KCopy) (p_1 : Int) : Option (Int) :=
  Option.bind (Option.bind (Option.bind (iter (σ := Int) (ρ := Unit ⊕ Int) (fun (v_19 : Int) => 
          (ifB (decide (v_19 < ((p_0.length : Nat) : Int)))
            (Option.bind (ixI p_0 v_19) (fun v_22 =>
            Option.bind (some () : Option (Unit)) (fun (_ : Unit) => 
              ifB ((v_22.ID == p_1))
                (some (.inr (.inr v_19)))
                (some (.inl (IntKind.i64.wrap (v_19 + 1)))))))
            (some (.inr (.inl ()))) : Option (Int ⊕ (Unit ⊕ Int)))) F 0) (Sum.elim (fun (_ : Unit) => 
        some (.inl ())) (fun (v_29 : Int) => 
        some (.inr v_29))) : Option (Unit ⊕ Int)) (Sum.elim (fun (_ : Unit) => 
      some (-1)) (fun (v_31 : Int) => 
      some v_31)) : Option (Int)) (fun (v_32 : Int) => 
    some v_32)
set_option maxRecDepth 100000 in
set_option maxHeartbeats 16000000 in
theorem z_copies_find (F : Nat) (p_0_A : Option Addr) (p_0_c : Nat) (p_0 : List KCopyL) (p_1 : Int) (r : Int) (hG : G_copies_find F (p_0.map KCopyL.p) p_1 = some r) :
  Cf Tryz.prog 28 [.slice p_0_A p_0.length p_0_c, I p_1] [RowC p_0_A p_0_c KCopyL.cells KCopyL.ok p_0] (I r) := by
 unfold G_copies_find at hG
 try (simp only [un2, un3, un4, un5, un6, un7, un8, Sum.elim_inl, Sum.elim_inr, List.length_map, KCopyL.n_Log] at hG; replace hG : _ = _ := hG)
 refine fi Tryz.func28 rfl rfl (mr KCopyL.mv m0) fun S0 w0 hT => ?_
 refine sq ?_; refine rg ?_; refine l1 ?_; refine nw 3 vp [I p_1] 3 fun g_1 => ?_
 refine ra [] f0 [] ?_; refine tN ?_; refine sq ?_; replace hG := bind_some hG; obtain ⟨v_32o, hy_33, hG⟩ := hG; refine rg ?_; refine rn 2 [] f0 [(5, .slice p_0_A p_0.length p_0_c), (6, .func (.func 63) #[] #[Pt g_1 0])] ?_; refine l1 ?_; refine ci 7 (args := [.slice p_0_A p_0.length p_0_c, .func (.func 63) #[] #[Pt g_1 0]]) (fun E e w => ∃ (v_32 : Int), Rs S0 w0 (I v_32) (se E [0, 1]) (v_32 = v_32o) e w) Tryz.func62 rfl rfl ?_ ?_
 ·replace hG := hy_33
  try (simp only [un2, un3, un4, un5, un6, un7, un8, Sum.elim_inl, Sum.elim_inr, List.length_map, KCopyL.n_Log] at hG; replace hG : _ = _ := hG)
  refine sq ?_; refine rg ?_; refine ra [] f0 [] ?_; refine tN ?_; obtain ⟨o_62, hG, hG_62⟩ := bind_some hG; refine jn (fun K E a w => Js S0 w0 19 (K) (se E [0, 1]) (.inl () = o_62) a w) ?_ ?_
  ·refine sq ?_; refine rg ?_; refine ra [] f0 [(7, I ((p_0.length : Nat) : Int)), (8, I 0)] ?_; refine tN ?_; refine bk ?_; obtain ⟨e_52, hL, hG_52⟩ := bind_some hG; clear hG; obtain ⟨stp_52, hs_52, hL⟩ := iter_gen hL; refine lp (fun K E n_ a w => ∃ (v_51 : Int), Js S0 w0 19 ([(8, I v_51)] ++ K) (se E [0, 1]) (iter stp_52 n_ v_51 = some e_52) a w) F ?_ ?_
   ·exact fun a w S hK hE => ⟨0, S, hK.wk, hE.sel [0, 1], hL⟩
   ·clear hL; rintro n_52 a w ⟨v_51, hJ⟩; refine hJ.go fun hL => ?_
    clear hJ; obtain ⟨m_52, o_52, rfl, hG, hO1_52, hO2_52⟩ := iter_step hL; clear hL; rw [hs_52] at hG
    try (simp only [un2, un3, un4, un5, un6, un7, un8, Sum.elim_inl, Sum.elim_inr, List.length_map, KCopyL.n_Log] at hG; replace hG : _ = _ := hG)
    refine sq ?_; refine rg ?_; refine ra [] f0 [(9, B (decide (v_51 < ((p_0.length : Nat) : Int))))] ?_; refine tN ?_; refine sq ?_; rcases ifB_cases hG with ⟨h_53, hG⟩ | ⟨h_53, hG⟩
    ·try simp only [List.length_map, KCopyL.n_Log] at h_53
     refine sb 9 (bt h_53) ?_; refine ct ?_; refine kS ?_; refine tN ?_; refine sq ?_; refine bk ?_; refine sq ?_; refine rg ?_; refine ra [] f0 [(5, I v_51)] ?_; refine tN ?_; refine sq ?_; replace hG := bind_some hG; obtain ⟨v_54o, hy_54, hG⟩ := hG; replace hG := bind_some hG; obtain ⟨⟨⟩, hy_58, hG⟩ := hG; refine rg ?_; refine fxn (p := KCopyL.p) inf22 (gd' (RowC p_0_A p_0_c KCopyL.cells KCopyL.ok p_0) 1) hy_54 fun v_54 b_55 o_56 he_54 hi_54 => ?_
     subst he_54
     try (simp only [un2, un3, un4, un5, un6, un7, un8, Sum.elim_inl, Sum.elim_inr, List.length_map, KCopyL.n_Log] at hG; replace hG : _ = _ := hG)
     refine rn 5 [(3, 0, 0, 0), (0, 2, 0, 0)] (fc (hi_54 .i64) f0) [(11, .func (.func 63) #[] #[Pt g_1 0]), (15, .agg #[I v_54.ID, .slice v_54.Log_A v_54.Log.length v_54.Log_c])] ?_; refine l1 ?_; refine ci 16 (args := [.agg #[I v_54.ID, .slice v_54.Log_A v_54.Log.length v_54.Log_c], Pt g_1 0]) (fun E e w => Rs S0 w0 (B (v_54.ID == p_1)) ([.dat (RowC v_54.Log_A v_54.Log_c KTxL.cells KTxL.ok v_54.Log)] ++ se E [0, 2, 3]) (() = ()) e w) Tryz.func63 rfl rfl ?_ ?_
     ·replace hG := hy_58
      try (simp only [un2, un3, un4, un5, un6, un7, un8, Sum.elim_inl, Sum.elim_inr, List.length_map, KCopyL.n_Log] at hG; replace hG : _ = _ := hG)
      refine sq ?_; refine rg ?_; refine l1 ?_; refine nw 2 vp [I v_54.ID, .slice v_54.Log_A v_54.Log.length v_54.Log_c] 40 fun g_59 => ?_
      refine ra [] f0 [] ?_; refine tN ?_; refine sq ?_; refine rg ?_; refine ra [(1, 1, 0, 0), (0, 1, 3, 0)] f0 [(3, B (v_54.ID == p_1))] ?_; refine tN ?_; refine kR ?_; refine ri [] (B (v_54.ID == p_1)) ?_; refine fm (RowC v_54.Log_A v_54.Log_c KTxL.cells KTxL.ok v_54.Log) (gm (KCopyL.ok v_54) 2 fun _ _ h => h.f_Log) ?_; exact fun a w S hK hE => ⟨rfl, ⟨S, hE.sel [0, 2, 4, 5]⟩, Option.some.inj hG⟩
     ·rintro e w hJ; refine hJ.go fun ho_ => ?_
      clear hJ; refine nl ?_; refine tN ?_; rcases ifB_cases hG with ⟨h_60, hG⟩ | ⟨h_60, hG⟩
      ·refine sb 16 (bt h_60) ?_; refine ct ?_; refine sq ?_; refine rg ?_; refine ra [] f0 [(4, I v_51)] ?_; refine tN ?_; refine kR ?_; refine hR ?_; refine tR ?_; refine tR ?_; have he_ := hO2_52 _ (Option.some.inj hG).symm; subst he_; replace hG := hG_52
       try (simp only [un2, un3, un4, un5, un6, un7, un8, Sum.elim_inl, Sum.elim_inr, List.length_map, KCopyL.n_Log] at hG; replace hG : _ = _ := hG)
       refine hR ?_; refine tR ?_; obtain rfl := Option.some.inj hG; replace hG := hG_62
       try (simp only [un2, un3, un4, un5, un6, un7, un8, Sum.elim_inl, Sum.elim_inr, List.length_map, KCopyL.n_Log] at hG; replace hG : _ = _ := hG)
       refine ri [] (I v_51) ?_; exact fun a w S hK hE => ⟨v_51, rfl, ⟨S, hE.sel [2, 3]⟩, Option.some.inj hG⟩
      ·refine sb 16 (bf h_60) ?_; refine cf ?_; refine kS ?_; refine hN ?_; refine tN ?_; refine rg ?_; refine ra [] f0 [(8, I (IntKind.i64.wrap (v_51 + 1)))] ?_; refine tN ?_; exact fun a w S hK hE => ⟨m_52, ⟨IntKind.i64.wrap (v_51 + 1), S, hK.wk, hE.sel [2, 3], hO1_52 _ (Option.some.inj hG).symm⟩, Nat.lt_succ_self _⟩
    ·try simp only [List.length_map, KCopyL.n_Log] at h_53
     refine sb 9 (bf h_53) ?_; refine cf ?_; refine kX ?_; refine tX ?_; refine tX ?_; have he_ := hO2_52 _ (Option.some.inj hG).symm; subst he_; replace hG := hG_52
     try (simp only [un2, un3, un4, un5, un6, un7, un8, Sum.elim_inl, Sum.elim_inr, List.length_map, KCopyL.n_Log] at hG; replace hG : _ = _ := hG)
     refine hH ?_; refine tN ?_; exact fun a w S hK hE => ⟨S, hK.wk, hE.sel [0, 1], Option.some.inj hG⟩
  ·rintro a w hJ; refine hJ.go fun ho_ => ?_
   clear hJ; subst ho_; replace hG := hG_62
   try (simp only [un2, un3, un4, un5, un6, un7, un8, Sum.elim_inl, Sum.elim_inr, List.length_map, KCopyL.n_Log] at hG; replace hG : _ = _ := hG)
   refine sq ?_; refine rg ?_; refine ra [] f0 [(4, I (-1))] ?_; refine tN ?_; refine kR ?_; refine ri [] (I (-1)) ?_; exact fun a w S hK hE => ⟨(-1), rfl, ⟨S, hE.sel [0, 1]⟩, Option.some.inj hG⟩
 ·rintro e w ⟨v_32, hJ⟩; refine hJ.go fun ho_ => ?_
  clear hJ; subst ho_
  try (simp only [un2, un3, un4, un5, un6, un7, un8, Sum.elim_inl, Sum.elim_inr, List.length_map, KCopyL.n_Log] at hG; replace hG : _ = _ := hG)
  refine ra [] f0 [(4, I v_32)] ?_; refine tN ?_; refine kR ?_; obtain rfl := Option.some.inj hG; exact rt []
def G_regulatorlaw38_tx (F : Nat) (p_0 : Int) (p_1 : Int) (p_2 : Int) (p_3 : Int) : Option (KTx) :=
 some (⟨p_0, p_1, ([] : List KSeen), ([(⟨p_2, p_3, false⟩ : KWrite)] : List KWrite)⟩ : KTx)
set_option maxRecDepth 100000 in
set_option maxHeartbeats 16000000 in
theorem z_regulatorlaw38_tx (F : Nat) (p_0 : Int) (p_1 : Int) (p_2 : Int) (p_3 : Int) (r : KTx) (hG : G_regulatorlaw38_tx F p_0 p_1 p_2 p_3 = some r) :
  Cn Tryz.prog 27 [I p_0, I p_1, I p_2, I p_3] [] (fun q : KTxL => r = q.p) (fun q => .agg #[I q.ID, I q.Ts, .slice q.Reads_A q.Reads.length q.Reads_c, .slice q.Writes_A q.Writes.length q.Writes_c]) (fun q => [KTxL.ok q]) := by
 unfold G_regulatorlaw38_tx at hG
 try (simp only [un2, un3, un4, un5, un6, un7, un8, Sum.elim_inl, Sum.elim_inr, List.length_map, KCopyL.n_Log] at hG; replace hG : _ = _ := hG)
 refine fin Tryz.func27 rfl rfl m0 fun S0 w0 hT => ?_
 refine sq ?_; refine rg ?_; refine l1 ?_; refine nw 8 vp [I 0, I 0, .slice none 0 0, .slice none 0 0] 47 fun g_1 => ?_
 refine nl ?_; refine tN ?_; refine sq ?_; refine rg ?_; refine rn 5 [] f0 [(9, I p_0), (10, I p_1), (13, .agg #[I p_2, I p_3, B false])] ?_; refine l1 ?_; refine nw 14 (vs 1) [I p_2, I p_3, B false] 52 fun g_2 => ?_
 refine rn 1 [] f0 [(15, .agg #[I p_0, I p_1, .slice none 0 0, Sb g_2 1 1])] ?_; refine l1 ?_; refine sr 1 g_1 [(0, I p_0), (1, I p_1), (2, .slice none 0 0), (3, Sb g_2 1 1)] ?_; refine nl ?_; refine tN ?_; refine kR ?_; obtain rfl := Option.some.inj hG; refine sB 0 g_2 KWrite.cells tr ([(⟨p_2, p_3, false⟩ : KWrite)] : List KWrite) tr_mv et ?_; exact rtn [(1, 0, 4)] (⟨p_0, p_1, none, 0, ([] : List KSeen), (some ⟨g_2, 0, none⟩), 1, ([(⟨p_2, p_3, false⟩ : KWrite)] : List KWrite)⟩ : KTxL) rfl ⟨((Fd.two ((gn : Fd _ (RowC none 0 KSeen.cells tr ([] : List KSeen)))) ((gd' (RowC (some ⟨g_2, 0, none⟩) 1 KWrite.cells tr ([(⟨p_2, p_3, false⟩ : KWrite)] : List KWrite)) 0))).m fun _ _ h => ⟨h.1, h.2⟩), trivial⟩
def G_regulatorref33_Same (F : Nat) (p_0 : List KVersion) (p_1 : List KVersion) : Option (Bool) :=
  ifB ((((p_0.length : Nat) : Int) == ((p_1.length : Nat) : Int)))
    (Option.bind (Option.bind (iter (σ := Int) (ρ := Unit ⊕ Unit) (fun (v_19 : Int) => 
          (ifB (decide (v_19 < ((p_0.length : Nat) : Int)))
            (Option.bind (ixI p_0 v_19) (fun v_22 =>
            Option.bind (ixI p_1 v_19) (fun v_25 =>
            ifB (decide (v_22 = v_25))
              (some (.inl (IntKind.i64.wrap (v_19 + 1))))
              (some (.inr (.inr ()))))))
            (some (.inr (.inl ()))) : Option (Int ⊕ (Unit ⊕ Unit)))) F 0) (Sum.elim (fun (_ : Unit) => 
        some (.inl ())) (fun (_ : Unit) => 
        some (.inr ()))) : Option (Unit ⊕ Unit)) (Sum.elim (fun (_ : Unit) => 
      some true) (fun (_ : Unit) => 
      some false)))
    (some false)
set_option maxRecDepth 100000 in
set_option maxHeartbeats 16000000 in
theorem z_regulatorref33_Same (F : Nat) (p_0_A : Option Addr) (p_0_c : Nat) (p_0 : List KVersion) (p_1_A : Option Addr) (p_1_c : Nat) (p_1 : List KVersion) (r : Bool) (hG : G_regulatorref33_Same F p_0 p_1 = some r) :
  Cf Tryz.prog 23 [.slice p_0_A p_0.length p_0_c, .slice p_1_A p_1.length p_1_c] [RowC p_0_A p_0_c KVersion.cells tr p_0, RowC p_1_A p_1_c KVersion.cells tr p_1] (B r) := by
 unfold G_regulatorref33_Same at hG
 try (simp only [un2, un3, un4, un5, un6, un7, un8, Sum.elim_inl, Sum.elim_inr, List.length_map, KCopyL.n_Log] at hG; replace hG : _ = _ := hG)
 refine fi Tryz.func23 rfl rfl (mr tr_mv (mr tr_mv m0)) fun S0 w0 hT => ?_
 refine sq ?_; refine rg ?_; refine ra [] f0 [] ?_; refine tN ?_; refine sq ?_; refine sq ?_; refine rg ?_; refine ra [] f0 [(10, B (!(((p_0.length : Nat) : Int) == ((p_1.length : Nat) : Int))))] ?_; refine tN ?_; rcases ifB_cases hG with ⟨h_1, hG⟩ | ⟨h_1, hG⟩
 ·try simp only [List.length_map, KCopyL.n_Log] at h_1
  refine sb 10 (nt h_1) ?_; refine cf ?_; refine kS ?_; refine tN ?_; obtain ⟨o_29, hG, hG_29⟩ := bind_some hG; refine jn (fun K E a w => Js S0 w0 26 (K) (se E []) (.inl () = o_29) a w) ?_ ?_
  ·refine sq ?_; refine rg ?_; refine ra [] f0 [(5, I 0)] ?_; refine tN ?_; refine bk ?_; obtain ⟨e_20, hL, hG_20⟩ := bind_some hG; clear hG; obtain ⟨stp_20, hs_20, hL⟩ := iter_gen hL; refine lp (fun K E n_ a w => ∃ (v_19 : Int), Js S0 w0 26 ([(5, I v_19)] ++ K) (se E [0, 1]) (iter stp_20 n_ v_19 = some e_20) a w) F ?_ ?_
   ·exact fun a w S hK hE => ⟨0, S, hK.wk, hE.sel [0, 1], hL⟩
   ·clear hL; rintro n_20 a w ⟨v_19, hJ⟩; refine hJ.go fun hL => ?_
    clear hJ; obtain ⟨m_20, o_20, rfl, hG, hO1_20, hO2_20⟩ := iter_step hL; clear hL; rw [hs_20] at hG
    try (simp only [un2, un3, un4, un5, un6, un7, un8, Sum.elim_inl, Sum.elim_inr, List.length_map, KCopyL.n_Log] at hG; replace hG : _ = _ := hG)
    refine sq ?_; refine sq ?_; refine rg ?_; refine ra [] f0 [(14, B (decide (v_19 < ((p_0.length : Nat) : Int))))] ?_; refine tN ?_; rcases ifB_cases hG with ⟨h_21, hG⟩ | ⟨h_21, hG⟩
    ·try simp only [List.length_map, KCopyL.n_Log] at h_21
     refine sb 14 (bt h_21) ?_; refine ct ?_; refine kS ?_; refine tN ?_; refine sq ?_; refine bk ?_; refine sq ?_; replace hG := bind_some hG; obtain ⟨v_22, hy_22, hG⟩ := hG; replace hG := bind_some hG; obtain ⟨v_25, hy_25, hG⟩ := hG; refine qb ?_; refine fx inf33 (gd' (RowC p_0_A p_0_c KVersion.cells tr p_0) 0) hy_22 fun b_23 o_24 hi_22 => ?_
     refine fx inf33 (gd' (RowC p_1_A p_1_c KVersion.cells tr p_1) 2) hy_25 fun b_26 o_27 hi_25 => ?_
     refine qa [(2, 0, 0, 0), (0, 4, 1, 0), (2, 0, 0, 0), (0, 4, 0, 0), (0, 0, 0, 0)] (fc (hi_22 .i64) (fc (hi_25 .i64) (fc (neq_KVersion v_22 v_25) f0))) [(25, B (!(decide (v_22 = v_25))))] ?_; refine tN ?_; rcases ifB_cases hG with ⟨h_28, hG⟩ | ⟨h_28, hG⟩
     ·refine sb 25 (nt h_28) ?_; refine cf ?_; refine kS ?_; refine hN ?_; refine tN ?_; refine rg ?_; refine ra [] f0 [(5, I (IntKind.i64.wrap (v_19 + 1)))] ?_; refine tN ?_; exact fun a w S hK hE => ⟨m_20, ⟨IntKind.i64.wrap (v_19 + 1), S, hK.wk, hE.sel [2, 3], hO1_20 _ (Option.some.inj hG).symm⟩, Nat.lt_succ_self _⟩
     ·refine sb 25 (nf h_28) ?_; refine ct ?_; refine sq ?_; refine rg ?_; refine ra [] f0 [(4, B false)] ?_; refine tN ?_; refine kR ?_; refine hR ?_; refine tR ?_; refine tR ?_; have he_ := hO2_20 _ (Option.some.inj hG).symm; subst he_; replace hG := hG_20
      try (simp only [un2, un3, un4, un5, un6, un7, un8, Sum.elim_inl, Sum.elim_inr, List.length_map, KCopyL.n_Log] at hG; replace hG : _ = _ := hG)
      refine hR ?_; refine tR ?_; obtain rfl := Option.some.inj hG; replace hG := hG_29
      try (simp only [un2, un3, un4, un5, un6, un7, un8, Sum.elim_inl, Sum.elim_inr, List.length_map, KCopyL.n_Log] at hG; replace hG : _ = _ := hG)
      obtain rfl := Option.some.inj hG; exact rt []
    ·try simp only [List.length_map, KCopyL.n_Log] at h_21
     refine sb 14 (bf h_21) ?_; refine cf ?_; refine kX ?_; refine tX ?_; refine tX ?_; have he_ := hO2_20 _ (Option.some.inj hG).symm; subst he_; replace hG := hG_20
     try (simp only [un2, un3, un4, un5, un6, un7, un8, Sum.elim_inl, Sum.elim_inr, List.length_map, KCopyL.n_Log] at hG; replace hG : _ = _ := hG)
     refine hH ?_; refine tN ?_; exact fun a w S hK hE => ⟨S, hK.wk, hE.sel [], Option.some.inj hG⟩
  ·rintro a w hJ; refine hJ.go fun ho_ => ?_
   clear hJ; subst ho_; replace hG := hG_29
   try (simp only [un2, un3, un4, un5, un6, un7, un8, Sum.elim_inl, Sum.elim_inr, List.length_map, KCopyL.n_Log] at hG; replace hG : _ = _ := hG)
   refine sq ?_; refine rg ?_; refine ra [] f0 [(4, B true)] ?_; refine tN ?_; refine kR ?_; obtain rfl := Option.some.inj hG; exact rt []
 ·try simp only [List.length_map, KCopyL.n_Log] at h_1
  refine sb 10 (nf h_1) ?_; refine ct ?_; refine sq ?_; refine rg ?_; refine ra [] f0 [(4, B false)] ?_; refine tN ?_; refine kR ?_; refine tR ?_; obtain rfl := Option.some.inj hG; exact rt []
def G_regulatorref33_Key (F : Nat) (p_0 : Int) : Option (Bool) :=
  Option.bind (ifB (decide (p_0 ≥ 1))
      (some (decide (p_0 ≤ 1000)))
      (some false) : Option (Bool)) (fun (v_3 : Bool) => 
    some v_3)
set_option maxRecDepth 100000 in
set_option maxHeartbeats 16000000 in
theorem z_regulatorref33_Key (F : Nat) (p_0 : Int) (r : Bool) (hG : G_regulatorref33_Key F p_0 = some r) :
  Cf Tryz.prog 118 [I p_0] [] (B r) := by
 unfold G_regulatorref33_Key at hG
 try (simp only [un2, un3, un4, un5, un6, un7, un8, Sum.elim_inl, Sum.elim_inr, List.length_map, KCopyL.n_Log] at hG; replace hG : _ = _ := hG)
 refine fi Tryz.func118 rfl rfl m0 fun S0 w0 hT => ?_
 refine sq ?_; refine rg ?_; refine ra [] f0 [] ?_; refine tN ?_; obtain ⟨o_2, hG, hG_2⟩ := bind_some hG; refine jn (fun K E a w => ∃ (v_3 : Bool), Js S0 w0 9 ([(2, B v_3)] ++ K) (se E []) (v_3 = o_2) a w) ?_ ?_
 ·replace hG := ifB_cases hG; rcases hG with ⟨h_1, hG⟩ | ⟨h_1, hG⟩
  ·refine rg ?_; refine rn 3 [] f0 [(5, B (decide (p_0 ≥ 1)))] ?_; refine sb 5 (bt h_1) ?_; refine ra [] f0 [(2, B (decide (p_0 ≤ 1000)))] ?_; refine tN ?_; exact fun a w S hK hE => ⟨decide (p_0 ≤ 1000), S, hK.wk, hE.sel [], Option.some.inj hG⟩
  ·refine rg ?_; refine rn 3 [] f0 [(5, B (decide (p_0 ≥ 1)))] ?_; refine sb 5 (bf h_1) ?_; refine ra [] f0 [(2, B false)] ?_; refine tN ?_; exact fun a w S hK hE => ⟨false, S, hK.wk, hE.sel [], Option.some.inj hG⟩
 ·rintro a w ⟨v_3, hJ⟩; refine hJ.go fun ho_ => ?_
  clear hJ; subst ho_; replace hG := hG_2
  try (simp only [un2, un3, un4, un5, un6, un7, un8, Sum.elim_inl, Sum.elim_inr, List.length_map, KCopyL.n_Log] at hG; replace hG : _ = _ := hG)
  refine kR ?_; obtain rfl := Option.some.inj hG; exact rt []
def G_regulatorref33_Stamp (F : Nat) (p_0 : Int) : Option (Bool) :=
  Option.bind (ifB (decide (p_0 ≥ 1))
      (some (decide (p_0 ≤ 3000000000000000)))
      (some false) : Option (Bool)) (fun (v_3 : Bool) => 
    some v_3)
set_option maxRecDepth 100000 in
set_option maxHeartbeats 16000000 in
theorem z_regulatorref33_Stamp (F : Nat) (p_0 : Int) (r : Bool) (hG : G_regulatorref33_Stamp F p_0 = some r) :
  Cf Tryz.prog 26 [I p_0] [] (B r) := by
 unfold G_regulatorref33_Stamp at hG
 try (simp only [un2, un3, un4, un5, un6, un7, un8, Sum.elim_inl, Sum.elim_inr, List.length_map, KCopyL.n_Log] at hG; replace hG : _ = _ := hG)
 refine fi Tryz.func26 rfl rfl m0 fun S0 w0 hT => ?_
 refine sq ?_; refine rg ?_; refine ra [] f0 [] ?_; refine tN ?_; obtain ⟨o_2, hG, hG_2⟩ := bind_some hG; refine jn (fun K E a w => ∃ (v_3 : Bool), Js S0 w0 9 ([(2, B v_3)] ++ K) (se E []) (v_3 = o_2) a w) ?_ ?_
 ·replace hG := ifB_cases hG; rcases hG with ⟨h_1, hG⟩ | ⟨h_1, hG⟩
  ·refine rg ?_; refine rn 3 [] f0 [(5, B (decide (p_0 ≥ 1)))] ?_; refine sb 5 (bt h_1) ?_; refine ra [] f0 [(2, B (decide (p_0 ≤ 3000000000000000)))] ?_; refine tN ?_; exact fun a w S hK hE => ⟨decide (p_0 ≤ 3000000000000000), S, hK.wk, hE.sel [], Option.some.inj hG⟩
  ·refine rg ?_; refine rn 3 [] f0 [(5, B (decide (p_0 ≥ 1)))] ?_; refine sb 5 (bf h_1) ?_; refine ra [] f0 [(2, B false)] ?_; refine tN ?_; exact fun a w S hK hE => ⟨false, S, hK.wk, hE.sel [], Option.some.inj hG⟩
 ·rintro a w ⟨v_3, hJ⟩; refine hJ.go fun ho_ => ?_
  clear hJ; subst ho_; replace hG := hG_2
  try (simp only [un2, un3, un4, un5, un6, un7, un8, Sum.elim_inl, Sum.elim_inr, List.length_map, KCopyL.n_Log] at hG; replace hG : _ = _ := hG)
  refine kR ?_; obtain rfl := Option.some.inj hG; exact rt []
def G_regulatorref38_SameTx (F : Nat) (p_0 : KTx) (p_1 : KTx) : Option (Bool) :=
  Option.bind (ifB ((p_0.ID == p_1.ID))
      (ifB ((p_0.Ts == p_1.Ts))
        (ifB ((((p_0.Reads.length : Nat) : Int) == ((p_1.Reads.length : Nat) : Int)))
          (some (!(((p_0.Writes.length : Nat) : Int) == ((p_1.Writes.length : Nat) : Int))))
          (some true))
        (some true))
      (some true) : Option (Bool)) (fun (v_7 : Bool) => 
    ifB (v_7)
      (some false)
      (Option.bind (Option.bind (iter (σ := Int) (ρ := Unit ⊕ Unit) (fun (v_26 : Int) => 
            (ifB (decide (v_26 < ((p_0.Reads.length : Nat) : Int)))
              (Option.bind (ixI p_0.Reads v_26) (fun v_29 =>
              Option.bind (ixI p_1.Reads v_26) (fun v_32 =>
              ifB (decide (v_29 = v_32))
                (some (.inl (IntKind.i64.wrap (v_26 + 1))))
                (some (.inr (.inr ()))))))
              (some (.inr (.inl ()))) : Option (Int ⊕ (Unit ⊕ Unit)))) F 0) (Sum.elim (fun (_ : Unit) => 
          some (.inl ())) (fun (_ : Unit) => 
          some (.inr ()))) : Option (Unit ⊕ Unit)) (Sum.elim (fun (_ : Unit) => 
        Option.bind (Option.bind (iter (σ := Int) (ρ := Unit ⊕ Unit) (fun (v_54 : Int) => 
              (ifB (decide (v_54 < ((p_0.Writes.length : Nat) : Int)))
                (Option.bind (ixI p_0.Writes v_54) (fun v_57 =>
                Option.bind (ixI p_1.Writes v_54) (fun v_60 =>
                ifB (decide (v_57 = v_60))
                  (some (.inl (IntKind.i64.wrap (v_54 + 1))))
                  (some (.inr (.inr ()))))))
                (some (.inr (.inl ()))) : Option (Int ⊕ (Unit ⊕ Unit)))) F 0) (Sum.elim (fun (_ : Unit) => 
            some (.inl ())) (fun (_ : Unit) => 
            some (.inr ()))) : Option (Unit ⊕ Unit)) (Sum.elim (fun (_ : Unit) => 
          some true) (fun (_ : Unit) => 
          some false))) (fun (_ : Unit) => 
        some false))))
set_option maxRecDepth 100000 in
set_option maxHeartbeats 16000000 in
theorem z_regulatorref38_SameTx (F : Nat) (p_0 : KTxL) (p_1 : KTxL) (r : Bool) (hG : G_regulatorref38_SameTx F p_0.p p_1.p = some r) :
  Cf Tryz.prog 61 [.agg #[I p_0.ID, I p_0.Ts, .slice p_0.Reads_A p_0.Reads.length p_0.Reads_c, .slice p_0.Writes_A p_0.Writes.length p_0.Writes_c], .agg #[I p_1.ID, I p_1.Ts, .slice p_1.Reads_A p_1.Reads.length p_1.Reads_c, .slice p_1.Writes_A p_1.Writes.length p_1.Writes_c]] [KTxL.ok p_0, KTxL.ok p_1] (B r) := by
 unfold G_regulatorref38_SameTx at hG
 try (simp only [un2, un3, un4, un5, un6, un7, un8, Sum.elim_inl, Sum.elim_inr, List.length_map, KCopyL.n_Log] at hG; replace hG : _ = _ := hG)
 refine fi Tryz.func61 rfl rfl (mc KTxL.mv (mc KTxL.mv m0)) fun S0 w0 hT => ?_
 refine sq ?_; refine rg ?_; refine l1 ?_; refine nw 2 vp [I p_0.ID, I p_0.Ts, .slice p_0.Reads_A p_0.Reads.length p_0.Reads_c, .slice p_0.Writes_A p_0.Writes.length p_0.Writes_c] 47 fun g_1 => ?_
 refine l1 ?_; refine nw 3 vp [I p_1.ID, I p_1.Ts, .slice p_1.Reads_A p_1.Reads.length p_1.Reads_c, .slice p_1.Writes_A p_1.Writes.length p_1.Writes_c] 47 fun g_2 => ?_
 refine ra [] f0 [] ?_; refine tN ?_; refine sq ?_; obtain ⟨o_6, hG, hG_6⟩ := bind_some hG; refine jn (fun K E a w => ∃ (v_7 : Bool), Js S0 w0 73 ([(36, B v_7)] ++ K) ([.dat (RowC p_0.Reads_A p_0.Reads_c KSeen.cells tr p_0.Reads), .dat (RowC p_0.Writes_A p_0.Writes_c KWrite.cells tr p_0.Writes), .dat (RowC p_1.Reads_A p_1.Reads_c KSeen.cells tr p_1.Reads), .dat (RowC p_1.Writes_A p_1.Writes_c KWrite.cells tr p_1.Writes)] ++ se E [0, 1]) (v_7 = o_6) a w) ?_ ?_
 ·replace hG := ifB_cases hG; rcases hG with ⟨h_3, hG⟩ | ⟨h_3, hG⟩
  ·replace hG := ifB_cases hG; rcases hG with ⟨h_4, hG⟩ | ⟨h_4, hG⟩
   ·replace hG := ifB_cases hG; rcases hG with ⟨h_5, hG⟩ | ⟨h_5, hG⟩
    ·refine rg ?_; refine rn 6 [(1, 1, 1, 0), (1, 1, 0, 0)] f0 [(12, B (!(p_0.ID == p_1.ID)))] ?_; refine sb 12 (nt h_3) ?_; refine rn 7 [(1, 1, 1, 1), (1, 1, 0, 1)] f0 [(19, B (!(p_0.Ts == p_1.Ts)))] ?_; refine sb 19 (nt h_4) ?_; refine rn 9 [(1, 1, 1, 2), (2, 1, 0, 2)] f0 [(28, B (!(((p_0.Reads.length : Nat) : Int) == ((p_1.Reads.length : Nat) : Int))))] ?_
     try simp only [List.length_map, KCopyL.n_Log] at h_5
     refine sb 28 (nt h_5) ?_; refine ra [(1, 1, 1, 3), (2, 1, 0, 3)] f0 [(36, B (!(((p_0.Writes.length : Nat) : Int) == ((p_1.Writes.length : Nat) : Int))))] ?_; refine tN ?_; refine fm (RowC p_0.Reads_A p_0.Reads_c KSeen.cells tr p_0.Reads) (gm (KTxL.ok p_0) 2 fun _ _ h => h.f_Reads) ?_; refine fm (RowC p_0.Writes_A p_0.Writes_c KWrite.cells tr p_0.Writes) (gm (KTxL.ok p_0) 3 fun _ _ h => h.f_Writes) ?_; refine fm (RowC p_1.Reads_A p_1.Reads_c KSeen.cells tr p_1.Reads) (gm (KTxL.ok p_1) 5 fun _ _ h => h.f_Reads) ?_; refine fm (RowC p_1.Writes_A p_1.Writes_c KWrite.cells tr p_1.Writes) (gm (KTxL.ok p_1) 6 fun _ _ h => h.f_Writes) ?_; exact fun a w S hK hE => ⟨!(((p_0.Writes.length : Nat) : Int) == ((p_1.Writes.length : Nat) : Int)), S, hK.wk, hE.sel [3, 2, 1, 0, 4, 5], Option.some.inj hG⟩
    ·refine rg ?_; refine rn 6 [(1, 1, 1, 0), (1, 1, 0, 0)] f0 [(12, B (!(p_0.ID == p_1.ID)))] ?_; refine sb 12 (nt h_3) ?_; refine rn 7 [(1, 1, 1, 1), (1, 1, 0, 1)] f0 [(19, B (!(p_0.Ts == p_1.Ts)))] ?_; refine sb 19 (nt h_4) ?_; refine rn 9 [(1, 1, 1, 2), (2, 1, 0, 2)] f0 [(28, B (!(((p_0.Reads.length : Nat) : Int) == ((p_1.Reads.length : Nat) : Int))))] ?_
     try simp only [List.length_map, KCopyL.n_Log] at h_5
     refine sb 28 (nf h_5) ?_; refine ra [] f0 [(36, B true)] ?_; refine tN ?_; refine fm (RowC p_0.Reads_A p_0.Reads_c KSeen.cells tr p_0.Reads) (gm (KTxL.ok p_0) 2 fun _ _ h => h.f_Reads) ?_; refine fm (RowC p_0.Writes_A p_0.Writes_c KWrite.cells tr p_0.Writes) (gm (KTxL.ok p_0) 3 fun _ _ h => h.f_Writes) ?_; refine fm (RowC p_1.Reads_A p_1.Reads_c KSeen.cells tr p_1.Reads) (gm (KTxL.ok p_1) 5 fun _ _ h => h.f_Reads) ?_; refine fm (RowC p_1.Writes_A p_1.Writes_c KWrite.cells tr p_1.Writes) (gm (KTxL.ok p_1) 6 fun _ _ h => h.f_Writes) ?_; exact fun a w S hK hE => ⟨true, S, hK.wk, hE.sel [3, 2, 1, 0, 4, 5], Option.some.inj hG⟩
   ·refine rg ?_; refine rn 6 [(1, 1, 1, 0), (1, 1, 0, 0)] f0 [(12, B (!(p_0.ID == p_1.ID)))] ?_; refine sb 12 (nt h_3) ?_; refine rn 7 [(1, 1, 1, 1), (1, 1, 0, 1)] f0 [(19, B (!(p_0.Ts == p_1.Ts)))] ?_; refine sb 19 (nf h_4) ?_; refine ra [] f0 [(36, B true)] ?_; refine tN ?_; refine fm (RowC p_0.Reads_A p_0.Reads_c KSeen.cells tr p_0.Reads) (gm (KTxL.ok p_0) 2 fun _ _ h => h.f_Reads) ?_; refine fm (RowC p_0.Writes_A p_0.Writes_c KWrite.cells tr p_0.Writes) (gm (KTxL.ok p_0) 3 fun _ _ h => h.f_Writes) ?_; refine fm (RowC p_1.Reads_A p_1.Reads_c KSeen.cells tr p_1.Reads) (gm (KTxL.ok p_1) 5 fun _ _ h => h.f_Reads) ?_; refine fm (RowC p_1.Writes_A p_1.Writes_c KWrite.cells tr p_1.Writes) (gm (KTxL.ok p_1) 6 fun _ _ h => h.f_Writes) ?_; exact fun a w S hK hE => ⟨true, S, hK.wk, hE.sel [3, 2, 1, 0, 4, 5], Option.some.inj hG⟩
  ·refine rg ?_; refine rn 6 [(1, 1, 1, 0), (1, 1, 0, 0)] f0 [(12, B (!(p_0.ID == p_1.ID)))] ?_; refine sb 12 (nf h_3) ?_; refine ra [] f0 [(36, B true)] ?_; refine tN ?_; refine fm (RowC p_0.Reads_A p_0.Reads_c KSeen.cells tr p_0.Reads) (gm (KTxL.ok p_0) 2 fun _ _ h => h.f_Reads) ?_; refine fm (RowC p_0.Writes_A p_0.Writes_c KWrite.cells tr p_0.Writes) (gm (KTxL.ok p_0) 3 fun _ _ h => h.f_Writes) ?_; refine fm (RowC p_1.Reads_A p_1.Reads_c KSeen.cells tr p_1.Reads) (gm (KTxL.ok p_1) 5 fun _ _ h => h.f_Reads) ?_; refine fm (RowC p_1.Writes_A p_1.Writes_c KWrite.cells tr p_1.Writes) (gm (KTxL.ok p_1) 6 fun _ _ h => h.f_Writes) ?_; exact fun a w S hK hE => ⟨true, S, hK.wk, hE.sel [3, 2, 1, 0, 4, 5], Option.some.inj hG⟩
 ·rintro a w ⟨v_7, hJ⟩; refine hJ.go fun ho_ => ?_
  clear hJ; subst ho_; replace hG := hG_6
  try (simp only [un2, un3, un4, un5, un6, un7, un8, Sum.elim_inl, Sum.elim_inr, List.length_map, KCopyL.n_Log] at hG; replace hG : _ = _ := hG)
  rcases ifB_cases hG with ⟨h_8, hG⟩ | ⟨h_8, hG⟩
  ·refine sb 36 (bt h_8) ?_; refine ct ?_; refine sq ?_; refine rg ?_; refine ra [] f0 [(4, B false)] ?_; refine tN ?_; refine kR ?_; refine tR ?_; obtain rfl := Option.some.inj hG; exact rt []
  ·refine sb 36 (bf h_8) ?_; refine cf ?_; refine kS ?_; refine tN ?_; obtain ⟨o_36, hG, hG_36⟩ := bind_some hG; refine jn (fun K E a w => Js S0 w0 73 (K) (se E [0, 1, 2, 3, 4, 5]) (.inl () = o_36) a w) ?_ ?_
   ·refine sq ?_; refine rg ?_; refine ra [] f0 [(5, I 0)] ?_; refine tN ?_; refine bk ?_; obtain ⟨e_27, hL, hG_27⟩ := bind_some hG; clear hG; obtain ⟨stp_27, hs_27, hL⟩ := iter_gen hL; refine lp (fun K E n_ a w => ∃ (v_26 : Int), Js S0 w0 73 ([(5, I v_26)] ++ K) (se E [0, 1, 2, 3, 4, 5]) (iter stp_27 n_ v_26 = some e_27) a w) F ?_ ?_
    ·exact fun a w S hK hE => ⟨0, S, hK.wk, hE.sel [0, 1, 2, 3, 4, 5], hL⟩
    ·clear hL; rintro n_27 a w ⟨v_26, hJ⟩; refine hJ.go fun hL => ?_
     clear hJ; obtain ⟨m_27, o_27, rfl, hG, hO1_27, hO2_27⟩ := iter_step hL; clear hL; rw [hs_27] at hG
     try (simp only [un2, un3, un4, un5, un6, un7, un8, Sum.elim_inl, Sum.elim_inr, List.length_map, KCopyL.n_Log] at hG; replace hG : _ = _ := hG)
     refine sq ?_; refine sq ?_; refine rg ?_; refine ra [(2, 1, 5, 2)] f0 [(41, B (decide (v_26 < ((p_0.Reads.length : Nat) : Int))))] ?_; refine tN ?_; rcases ifB_cases hG with ⟨h_28, hG⟩ | ⟨h_28, hG⟩
     ·try simp only [List.length_map, KCopyL.n_Log] at h_28
      refine sb 41 (bt h_28) ?_; refine ct ?_; refine kS ?_; refine tN ?_; refine sq ?_; refine bk ?_; refine sq ?_; replace hG := bind_some hG; obtain ⟨v_29, hy_29, hG⟩ := hG; replace hG := bind_some hG; obtain ⟨v_32, hy_32, hG⟩ := hG; refine qb ?_; refine fx inf44 (gd' (RowC p_0.Reads_A p_0.Reads_c KSeen.cells tr p_0.Reads) 0) hy_29 fun b_30 o_31 hi_29 => ?_
      refine fx inf44 (gd' (RowC p_1.Reads_A p_1.Reads_c KSeen.cells tr p_1.Reads) 3) hy_32 fun b_33 o_34 hi_32 => ?_
      refine qa [(1, 1, 7, 2), (1, 0, 0, 0), (0, 2, 1, 0), (1, 1, 6, 2), (1, 0, 0, 0), (0, 2, 0, 0), (0, 0, 0, 0)] (fc (hi_29 .i64) (fc (hi_32 .i64) (fc (neq_KSeen v_29 v_32) f0))) [(54, B (!(decide (v_29 = v_32))))] ?_; refine tN ?_; rcases ifB_cases hG with ⟨h_35, hG⟩ | ⟨h_35, hG⟩
      ·refine sb 54 (nt h_35) ?_; refine cf ?_; refine kS ?_; refine hN ?_; refine tN ?_; refine rg ?_; refine ra [] f0 [(5, I (IntKind.i64.wrap (v_26 + 1)))] ?_; refine tN ?_; exact fun a w S hK hE => ⟨m_27, ⟨IntKind.i64.wrap (v_26 + 1), S, hK.wk, hE.sel [2, 3, 4, 5, 6, 7], hO1_27 _ (Option.some.inj hG).symm⟩, Nat.lt_succ_self _⟩
      ·refine sb 54 (nf h_35) ?_; refine ct ?_; refine sq ?_; refine rg ?_; refine ra [] f0 [(4, B false)] ?_; refine tN ?_; refine kR ?_; refine hR ?_; refine tR ?_; refine tR ?_; have he_ := hO2_27 _ (Option.some.inj hG).symm; subst he_; replace hG := hG_27
       try (simp only [un2, un3, un4, un5, un6, un7, un8, Sum.elim_inl, Sum.elim_inr, List.length_map, KCopyL.n_Log] at hG; replace hG : _ = _ := hG)
       refine hR ?_; refine tR ?_; obtain rfl := Option.some.inj hG; replace hG := hG_36
       try (simp only [un2, un3, un4, un5, un6, un7, un8, Sum.elim_inl, Sum.elim_inr, List.length_map, KCopyL.n_Log] at hG; replace hG : _ = _ := hG)
       obtain rfl := Option.some.inj hG; exact rt []
     ·try simp only [List.length_map, KCopyL.n_Log] at h_28
      refine sb 41 (bf h_28) ?_; refine cf ?_; refine kX ?_; refine tX ?_; refine tX ?_; have he_ := hO2_27 _ (Option.some.inj hG).symm; subst he_; replace hG := hG_27
      try (simp only [un2, un3, un4, un5, un6, un7, un8, Sum.elim_inl, Sum.elim_inr, List.length_map, KCopyL.n_Log] at hG; replace hG : _ = _ := hG)
      refine hH ?_; refine tN ?_; exact fun a w S hK hE => ⟨S, hK.wk, hE.sel [0, 1, 2, 3, 4, 5], Option.some.inj hG⟩
   ·rintro a w hJ; refine hJ.go fun ho_ => ?_
    clear hJ; subst ho_; replace hG := hG_36
    try (simp only [un2, un3, un4, un5, un6, un7, un8, Sum.elim_inl, Sum.elim_inr, List.length_map, KCopyL.n_Log] at hG; replace hG : _ = _ := hG)
    obtain ⟨o_64, hG, hG_64⟩ := bind_some hG; refine jn (fun K E a w => Js S0 w0 73 (K) (se E []) (.inl () = o_64) a w) ?_ ?_
    ·refine sq ?_; refine rg ?_; refine ra [] f0 [(6, I 0)] ?_; refine tN ?_; refine bk ?_; obtain ⟨e_55, hL, hG_55⟩ := bind_some hG; clear hG; obtain ⟨stp_55, hs_55, hL⟩ := iter_gen hL; refine lp (fun K E n_ a w => ∃ (v_54 : Int), Js S0 w0 73 ([(6, I v_54)] ++ K) (se E [0, 1, 2, 3, 4, 5]) (iter stp_55 n_ v_54 = some e_55) a w) F ?_ ?_
     ·exact fun a w S hK hE => ⟨0, S, hK.wk, hE.sel [0, 1, 2, 3, 4, 5], hL⟩
     ·clear hL; rintro n_55 a w ⟨v_54, hJ⟩; refine hJ.go fun hL => ?_
      clear hJ; obtain ⟨m_55, o_55, rfl, hG, hO1_55, hO2_55⟩ := iter_step hL; clear hL; rw [hs_55] at hG
      try (simp only [un2, un3, un4, un5, un6, un7, un8, Sum.elim_inl, Sum.elim_inr, List.length_map, KCopyL.n_Log] at hG; replace hG : _ = _ := hG)
      refine sq ?_; refine sq ?_; refine rg ?_; refine ra [(2, 1, 5, 3)] f0 [(59, B (decide (v_54 < ((p_0.Writes.length : Nat) : Int))))] ?_; refine tN ?_; rcases ifB_cases hG with ⟨h_56, hG⟩ | ⟨h_56, hG⟩
      ·try simp only [List.length_map, KCopyL.n_Log] at h_56
       refine sb 59 (bt h_56) ?_; refine ct ?_; refine kS ?_; refine tN ?_; refine sq ?_; refine bk ?_; refine sq ?_; replace hG := bind_some hG; obtain ⟨v_57, hy_57, hG⟩ := hG; replace hG := bind_some hG; obtain ⟨v_60, hy_60, hG⟩ := hG; refine qb ?_; refine fx inf45 (gd' (RowC p_0.Writes_A p_0.Writes_c KWrite.cells tr p_0.Writes) 1) hy_57 fun b_58 o_59 hi_57 => ?_
       refine fx inf45 (gd' (RowC p_1.Writes_A p_1.Writes_c KWrite.cells tr p_1.Writes) 4) hy_60 fun b_61 o_62 hi_60 => ?_
       refine qa [(1, 1, 7, 3), (1, 0, 0, 0), (0, 3, 1, 0), (1, 1, 6, 3), (1, 0, 0, 0), (0, 3, 0, 0), (0, 0, 0, 0)] (fc (hi_57 .i64) (fc (hi_60 .i64) (fc (neq_KWrite v_57 v_60) f0))) [(72, B (!(decide (v_57 = v_60))))] ?_; refine tN ?_; rcases ifB_cases hG with ⟨h_63, hG⟩ | ⟨h_63, hG⟩
       ·refine sb 72 (nt h_63) ?_; refine cf ?_; refine kS ?_; refine hN ?_; refine tN ?_; refine rg ?_; refine ra [] f0 [(6, I (IntKind.i64.wrap (v_54 + 1)))] ?_; refine tN ?_; exact fun a w S hK hE => ⟨m_55, ⟨IntKind.i64.wrap (v_54 + 1), S, hK.wk, hE.sel [2, 3, 4, 5, 6, 7], hO1_55 _ (Option.some.inj hG).symm⟩, Nat.lt_succ_self _⟩
       ·refine sb 72 (nf h_63) ?_; refine ct ?_; refine sq ?_; refine rg ?_; refine ra [] f0 [(4, B false)] ?_; refine tN ?_; refine kR ?_; refine hR ?_; refine tR ?_; refine tR ?_; have he_ := hO2_55 _ (Option.some.inj hG).symm; subst he_; replace hG := hG_55
        try (simp only [un2, un3, un4, un5, un6, un7, un8, Sum.elim_inl, Sum.elim_inr, List.length_map, KCopyL.n_Log] at hG; replace hG : _ = _ := hG)
        refine hR ?_; refine tR ?_; obtain rfl := Option.some.inj hG; replace hG := hG_64
        try (simp only [un2, un3, un4, un5, un6, un7, un8, Sum.elim_inl, Sum.elim_inr, List.length_map, KCopyL.n_Log] at hG; replace hG : _ = _ := hG)
        obtain rfl := Option.some.inj hG; exact rt []
      ·try simp only [List.length_map, KCopyL.n_Log] at h_56
       refine sb 59 (bf h_56) ?_; refine cf ?_; refine kX ?_; refine tX ?_; refine tX ?_; have he_ := hO2_55 _ (Option.some.inj hG).symm; subst he_; replace hG := hG_55
       try (simp only [un2, un3, un4, un5, un6, un7, un8, Sum.elim_inl, Sum.elim_inr, List.length_map, KCopyL.n_Log] at hG; replace hG : _ = _ := hG)
       refine hH ?_; refine tN ?_; exact fun a w S hK hE => ⟨S, hK.wk, hE.sel [], Option.some.inj hG⟩
    ·rintro a w hJ; refine hJ.go fun ho_ => ?_
     clear hJ; subst ho_; replace hG := hG_64
     try (simp only [un2, un3, un4, un5, un6, un7, un8, Sum.elim_inl, Sum.elim_inr, List.length_map, KCopyL.n_Log] at hG; replace hG : _ = _ := hG)
     refine sq ?_; refine rg ?_; refine ra [] f0 [(4, B true)] ?_; refine tN ?_; refine kR ?_; obtain rfl := Option.some.inj hG; exact rt []
def G_regulatorref38_find (F : Nat) (p_0 : List KCopy) (p_1 : Int) : Option (Int) :=
  Option.bind (Option.bind (iter (σ := Int × Int) (ρ := Unit ⊕ Int) (un2 fun (v_14 : Int) (v_15 : Int) => 
        (ifB (decide (v_15 < ((p_0.length : Nat) : Int)))
          (Option.bind (ixI p_0 v_15) (fun v_18 =>
          ifB ((v_18.ID == v_14))
            (some (.inr (.inr v_15)))
            (some (.inl (v_14, IntKind.i64.wrap (v_15 + 1))))))
          (some (.inr (.inl ()))) : Option ((Int × Int) ⊕ (Unit ⊕ Int)))) F (p_1, 0)) (Sum.elim (fun (_ : Unit) => 
      some (.inl ())) (fun (v_22 : Int) => 
      some (.inr v_22))) : Option (Unit ⊕ Int)) (Sum.elim (fun (_ : Unit) => 
    some (-1)) (fun (v_24 : Int) => 
    some v_24))
set_option maxRecDepth 100000 in
set_option maxHeartbeats 16000000 in
theorem z_regulatorref38_find (F : Nat) (p_0_A : Option Addr) (p_0_c : Nat) (p_0 : List KCopyL) (p_1 : Int) (r : Int) (hG : G_regulatorref38_find F (p_0.map KCopyL.p) p_1 = some r) :
  Cf Tryz.prog 32 [.slice p_0_A p_0.length p_0_c, I p_1] [RowC p_0_A p_0_c KCopyL.cells KCopyL.ok p_0] (I r) := by
 unfold G_regulatorref38_find at hG
 try (simp only [un2, un3, un4, un5, un6, un7, un8, Sum.elim_inl, Sum.elim_inr, List.length_map, KCopyL.n_Log] at hG; replace hG : _ = _ := hG)
 refine fi Tryz.func32 rfl rfl (mr KCopyL.mv m0) fun S0 w0 hT => ?_
 refine sq ?_; refine rg ?_; refine ra [] f0 [] ?_; refine tN ?_; obtain ⟨o_23, hG, hG_23⟩ := bind_some hG; refine jn (fun K E a w => Js S0 w0 20 (dk [1] K) (se E []) (.inl () = o_23) a w) ?_ ?_
 ·refine sq ?_; refine rg ?_; refine ra [] f0 [(5, I 0)] ?_; refine tN ?_; refine bk ?_; obtain ⟨e_16, hL, hG_16⟩ := bind_some hG; clear hG; obtain ⟨stp_16, hs_16, hL⟩ := iter_gen hL; refine lp (fun K E n_ a w => ∃ (v_14 : Int), ∃ (v_15 : Int), Js S0 w0 20 ([(1, I v_14), (5, I v_15)] ++ K) (se E [0]) (iter stp_16 n_ (v_14, v_15) = some e_16) a w) F ?_ ?_
  ·exact fun a w S hK hE => ⟨p_1, 0, S, hK.wk, hE.sel [0], hL⟩
  ·clear hL; rintro n_16 a w ⟨v_14, v_15, hJ⟩; refine hJ.go fun hL => ?_
   clear hJ; obtain ⟨m_16, o_16, rfl, hG, hO1_16, hO2_16⟩ := iter_step hL; clear hL; rw [hs_16] at hG
   try (simp only [un2, un3, un4, un5, un6, un7, un8, Sum.elim_inl, Sum.elim_inr, List.length_map, KCopyL.n_Log] at hG; replace hG : _ = _ := hG)
   refine sq ?_; refine sq ?_; refine rg ?_; refine ra [] f0 [(9, B (decide (v_15 < ((p_0.length : Nat) : Int))))] ?_; refine tN ?_; rcases ifB_cases hG with ⟨h_17, hG⟩ | ⟨h_17, hG⟩
   ·try simp only [List.length_map, KCopyL.n_Log] at h_17
    refine sb 9 (bt h_17) ?_; refine ct ?_; refine kS ?_; refine tN ?_; refine sq ?_; refine bk ?_; refine sq ?_; replace hG := bind_some hG; obtain ⟨v_18o, hy_18, hG⟩ := hG; refine rg ?_; refine fxn (p := KCopyL.p) inf22 (gd' (RowC p_0_A p_0_c KCopyL.cells KCopyL.ok p_0) 0) hy_18 fun v_18 b_19 o_20 he_18 hi_18 => ?_
    subst he_18
    try (simp only [un2, un3, un4, un5, un6, un7, un8, Sum.elim_inl, Sum.elim_inr, List.length_map, KCopyL.n_Log] at hG; replace hG : _ = _ := hG)
    refine ra [(2, 0, 0, 0), (1, 1, 0, 0)] (fc (hi_18 .i64) f0) [(18, B (v_18.ID == v_14))] ?_; refine tN ?_; rcases ifB_cases hG with ⟨h_21, hG⟩ | ⟨h_21, hG⟩
    ·refine sb 18 (bt h_21) ?_; refine ct ?_; refine sq ?_; refine rg ?_; refine ra [] f0 [(4, I v_15)] ?_; refine tN ?_; refine kR ?_; refine hR ?_; refine tR ?_; refine tR ?_; have he_ := hO2_16 _ (Option.some.inj hG).symm; subst he_; replace hG := hG_16
     try (simp only [un2, un3, un4, un5, un6, un7, un8, Sum.elim_inl, Sum.elim_inr, List.length_map, KCopyL.n_Log] at hG; replace hG : _ = _ := hG)
     refine hR ?_; refine tR ?_; obtain rfl := Option.some.inj hG; replace hG := hG_23
     try (simp only [un2, un3, un4, un5, un6, un7, un8, Sum.elim_inl, Sum.elim_inr, List.length_map, KCopyL.n_Log] at hG; replace hG : _ = _ := hG)
     obtain rfl := Option.some.inj hG; exact rt []
    ·refine sb 18 (bf h_21) ?_; refine cf ?_; refine kS ?_; refine hN ?_; refine tN ?_; refine rg ?_; refine ra [] f0 [(5, I (IntKind.i64.wrap (v_15 + 1)))] ?_; refine tN ?_; exact fun a w S hK hE => ⟨m_16, ⟨v_14, IntKind.i64.wrap (v_15 + 1), S, hK.wk, hE.sel [2], hO1_16 _ (Option.some.inj hG).symm⟩, Nat.lt_succ_self _⟩
   ·try simp only [List.length_map, KCopyL.n_Log] at h_17
    refine sb 9 (bf h_17) ?_; refine cf ?_; refine kX ?_; refine tX ?_; refine tX ?_; have he_ := hO2_16 _ (Option.some.inj hG).symm; subst he_; replace hG := hG_16
    try (simp only [un2, un3, un4, un5, un6, un7, un8, Sum.elim_inl, Sum.elim_inr, List.length_map, KCopyL.n_Log] at hG; replace hG : _ = _ := hG)
    refine hH ?_; refine tN ?_; exact fun a w S hK hE => ⟨S, hK.wk, hE.sel [], Option.some.inj hG⟩
 ·rintro a w hJ; refine hJ.go fun ho_ => ?_
  clear hJ; subst ho_; replace hG := hG_23
  try (simp only [un2, un3, un4, un5, un6, un7, un8, Sum.elim_inl, Sum.elim_inr, List.length_map, KCopyL.n_Log] at hG; replace hG : _ = _ := hG)
  refine sq ?_; refine rg ?_; refine ra [] f0 [(4, I (-1))] ?_; refine tN ?_; refine kR ?_; obtain rfl := Option.some.inj hG; exact rt []
end Go.Proofs.YtkchfmhgboiimaaGreat
namespace Go.Proofs.YtkchfmhgboiimaaGreat
open Go.RowKit Go.Maps
def G_regulatorref38_Few (F : Nat) (p_0 : List KCopy) : Option (Bool) :=
  Option.bind (Option.bind (iter (σ := Int) (ρ := Unit ⊕ Unit) (fun (v_146 : Int) => 
        (Option.bind (ifB (decide (v_146 < ((p_0.length : Nat) : Int)))
            (some (decide (v_146 < 20)))
            (some false) : Option (Bool)) (fun (v_150 : Bool) => 
          ifB (v_150)
            (Option.bind (Option.bind (ixI p_0 v_146) (fun v_152 =>
              ifB (decide (((v_152.Log.length : Nat) : Int) > 30))
                (some (.inr ()))
                (Option.bind (iter (σ := Int) (ρ := Unit ⊕ Unit) (fun (v_197 : Int) => 
                    (Option.bind (ixI p_0 v_146) (fun v_199 =>
                    ifB (decide (v_197 < ((v_199.Log.length : Nat) : Int)))
                      (Option.bind (Option.bind (ixI p_0 v_146) (fun v_203 =>
                        Option.bind (ixI v_203.Log v_197) (fun v_206 =>
                        ifB (decide (((v_206.Reads.length : Nat) : Int) > 20))
                          (some true)
                          (Option.bind (ixI p_0 v_146) (fun v_210 =>
                          Option.bind (ixI v_210.Log v_197) (fun v_213 =>
                          some (decide (((v_213.Writes.length : Nat) : Int) > 20))))))) : Option (Bool)) (fun (v_217 : Bool) => 
                        ifB (v_217)
                          (some (.inr (.inr ())))
                          (some (.inl (IntKind.i64.wrap (v_197 + 1))))))
                      (some (.inr (.inl ())))) : Option (Int ⊕ (Unit ⊕ Unit)))) F 0) (Sum.elim (fun (_ : Unit) => 
                  some (.inl ())) (fun (_ : Unit) => 
                  some (.inr ()))))) : Option (Unit ⊕ Unit)) (Sum.elim (fun (_ : Unit) => 
              some (.inl (IntKind.i64.wrap (v_146 + 1)))) (fun (_ : Unit) => 
              some (.inr (.inr ())))))
            (some (.inr (.inl ())))) : Option (Int ⊕ (Unit ⊕ Unit)))) F 0) (Sum.elim (fun (_ : Unit) => 
      some (.inl ())) (fun (_ : Unit) => 
      some (.inr ()))) : Option (Unit ⊕ Unit)) (Sum.elim (fun (_ : Unit) => 
    some (decide (((p_0.length : Nat) : Int) ≤ 10))) (fun (_ : Unit) => 
    some false))
set_option maxRecDepth 100000 in
set_option maxHeartbeats 16000000 in
theorem z_regulatorref38_Few (F : Nat) (p_0_A : Option Addr) (p_0_c : Nat) (p_0 : List KCopyL) (r : Bool) (hG : G_regulatorref38_Few F (p_0.map KCopyL.p) = some r) :
  Cf Tryz.prog 11 [.slice p_0_A p_0.length p_0_c] [RowC p_0_A p_0_c KCopyL.cells KCopyL.ok p_0] (B r) := by
 unfold G_regulatorref38_Few at hG
 try (simp only [un2, un3, un4, un5, un6, un7, un8, Sum.elim_inl, Sum.elim_inr, List.length_map, KCopyL.n_Log] at hG; replace hG : _ = _ := hG)
 refine fi Tryz.func11 rfl rfl (mr KCopyL.mv m0) fun S0 w0 hT => ?_
 refine sq ?_; refine rg ?_; refine ra [] f0 [] ?_; refine tN ?_; obtain ⟨o_220, hG, hG_220⟩ := bind_some hG; refine jn (fun K E a w => Js S0 w0 59 (K) (se E [0]) (.inl () = o_220) a w) ?_ ?_
 ·refine sq ?_; refine rg ?_; refine ra [] f0 [(3, I 0)] ?_; refine tN ?_; refine bk ?_; obtain ⟨e_147, hL, hG_147⟩ := bind_some hG; clear hG; obtain ⟨stp_147, hs_147, hL⟩ := iter_gen hL; refine lp (fun K E n_ a w => ∃ (v_146 : Int), Js S0 w0 59 ([(3, I v_146)] ++ K) (se E [0]) (iter stp_147 n_ v_146 = some e_147) a w) F ?_ ?_
  ·exact fun a w S hK hE => ⟨0, S, hK.wk, hE.sel [0], hL⟩
  ·clear hL; rintro n_147 a w ⟨v_146, hJ⟩; refine hJ.go fun hL => ?_
   clear hJ; obtain ⟨m_147, o_147, rfl, hG, hO1_147, hO2_147⟩ := iter_step hL; clear hL; rw [hs_147] at hG
   try (simp only [un2, un3, un4, un5, un6, un7, un8, Sum.elim_inl, Sum.elim_inr, List.length_map, KCopyL.n_Log] at hG; replace hG : _ = _ := hG)
   refine sq ?_; obtain ⟨o_149, hG, hG_149⟩ := bind_some hG; refine jn (fun K E a w => ∃ (v_150 : Bool), Js S0 w0 59 ([(12, B v_150)] ++ K) (se E [0]) (v_150 = o_149) a w) ?_ ?_
   ·replace hG := ifB_cases hG; rcases hG with ⟨h_148, hG⟩ | ⟨h_148, hG⟩
    ·refine rg ?_; refine rn 5 [] f0 [(9, B (decide (v_146 < ((p_0.length : Nat) : Int))))] ?_
     try simp only [List.length_map, KCopyL.n_Log] at h_148
     refine sb 9 (bt h_148) ?_; refine ra [] f0 [(12, B (decide (v_146 < 20)))] ?_; refine tN ?_; exact fun a w S hK hE => ⟨decide (v_146 < 20), S, hK.wk, hE.sel [0], Option.some.inj hG⟩
    ·refine rg ?_; refine rn 5 [] f0 [(9, B (decide (v_146 < ((p_0.length : Nat) : Int))))] ?_
     try simp only [List.length_map, KCopyL.n_Log] at h_148
     refine sb 9 (bf h_148) ?_; refine ra [] f0 [(12, B false)] ?_; refine tN ?_; exact fun a w S hK hE => ⟨false, S, hK.wk, hE.sel [0], Option.some.inj hG⟩
   ·rintro a w ⟨v_150, hJ⟩; refine hJ.go fun ho_ => ?_
    clear hJ; subst ho_; replace hG := hG_149
    try (simp only [un2, un3, un4, un5, un6, un7, un8, Sum.elim_inl, Sum.elim_inr, List.length_map, KCopyL.n_Log] at hG; replace hG : _ = _ := hG)
    rcases ifB_cases hG with ⟨h_151, hG⟩ | ⟨h_151, hG⟩
    ·refine sb 12 (bt h_151) ?_; refine ct ?_; refine kS ?_; refine tN ?_; obtain ⟨o_219, hG, hG_219⟩ := bind_some hG; refine jn (fun K E a w => Js S0 w0 59 (K) (se E [0]) (.inl () = o_219) a w) ?_ ?_
     ·refine bk ?_; refine sq ?_; refine sq ?_; replace hG := bind_some hG; obtain ⟨v_152o, hy_152, hG⟩ := hG; refine rg ?_; refine fxn (p := KCopyL.p) inf22 (gd' (RowC p_0_A p_0_c KCopyL.cells KCopyL.ok p_0) 0) hy_152 fun v_152 b_153 o_154 he_152 hi_152 => ?_
      subst he_152
      try (simp only [un2, un3, un4, un5, un6, un7, un8, Sum.elim_inl, Sum.elim_inr, List.length_map, KCopyL.n_Log] at hG; replace hG : _ = _ := hG)
      refine ra [(2, 0, 0, 0), (1, 1, 0, 1)] (fc (hi_152 .i64) f0) [(21, B (decide (((v_152.Log.length : Nat) : Int) > 30)))] ?_; refine tN ?_; rcases ifB_cases hG with ⟨h_155, hG⟩ | ⟨h_155, hG⟩
      ·try simp only [List.length_map, KCopyL.n_Log] at h_155
       refine sb 21 (bt h_155) ?_; refine ct ?_; refine sq ?_; refine rg ?_; refine ra [] f0 [(2, B false)] ?_; refine tN ?_; refine kR ?_; refine tR ?_; refine hR ?_; refine tR ?_; obtain rfl := Option.some.inj hG; replace hG := hG_219
       try (simp only [un2, un3, un4, un5, un6, un7, un8, Sum.elim_inl, Sum.elim_inr, List.length_map, KCopyL.n_Log] at hG; replace hG : _ = _ := hG)
       refine tR ?_; have he_ := hO2_147 _ (Option.some.inj hG).symm; subst he_; replace hG := hG_147
       try (simp only [un2, un3, un4, un5, un6, un7, un8, Sum.elim_inl, Sum.elim_inr, List.length_map, KCopyL.n_Log] at hG; replace hG : _ = _ := hG)
       refine hR ?_; refine tR ?_; obtain rfl := Option.some.inj hG; replace hG := hG_220
       try (simp only [un2, un3, un4, un5, un6, un7, un8, Sum.elim_inl, Sum.elim_inr, List.length_map, KCopyL.n_Log] at hG; replace hG : _ = _ := hG)
       obtain rfl := Option.some.inj hG; exact rt []
      ·try simp only [List.length_map, KCopyL.n_Log] at h_155
       refine sb 21 (bf h_155) ?_; refine cf ?_; refine kS ?_; refine tN ?_; refine sq ?_; refine rg ?_; refine ra [] f0 [(4, I 0)] ?_; refine tN ?_; refine bk ?_; obtain ⟨e_198, hL, hG_198⟩ := bind_some hG; clear hG; obtain ⟨stp_198, hs_198, hL⟩ := iter_gen hL; refine lp (fun K E n_ a w => ∃ (v_197 : Int), Js S0 w0 59 ([(4, I v_197)] ++ K) (se E [2]) (iter stp_198 n_ v_197 = some e_198) a w) F ?_ ?_
       ·exact fun a w S hK hE => ⟨0, S, hK.wk, hE.sel [2], hL⟩
       ·clear hL; rintro n_198 a w ⟨v_197, hJ⟩; refine hJ.go fun hL => ?_
        clear hJ; obtain ⟨m_198, o_198, rfl, hG, hO1_198, hO2_198⟩ := iter_step hL; clear hL; rw [hs_198] at hG
        try (simp only [un2, un3, un4, un5, un6, un7, un8, Sum.elim_inl, Sum.elim_inr, List.length_map, KCopyL.n_Log] at hG; replace hG : _ = _ := hG)
        refine sq ?_; refine sq ?_; replace hG := bind_some hG; obtain ⟨v_199o, hy_199, hG⟩ := hG; refine rg ?_; refine fxn (p := KCopyL.p) inf22 (gd' (RowC p_0_A p_0_c KCopyL.cells KCopyL.ok p_0) 0) hy_199 fun v_199 b_200 o_201 he_199 hi_199 => ?_
        subst he_199
        try (simp only [un2, un3, un4, un5, un6, un7, un8, Sum.elim_inl, Sum.elim_inr, List.length_map, KCopyL.n_Log] at hG; replace hG : _ = _ := hG)
        refine ra [(3, 0, 0, 0), (1, 1, 0, 1)] (fc (hi_199 .i64) f0) [(29, B (decide (v_197 < ((v_199.Log.length : Nat) : Int))))] ?_; refine tN ?_; rcases ifB_cases hG with ⟨h_202, hG⟩ | ⟨h_202, hG⟩
        ·try simp only [List.length_map, KCopyL.n_Log] at h_202
         refine sb 29 (bt h_202) ?_; refine ct ?_; refine kS ?_; refine tN ?_; refine sq ?_; refine bk ?_; obtain ⟨o_216, hG, hG_216⟩ := bind_some hG; refine jn (fun K E a w => ∃ (v_217 : Bool), Js S0 w0 59 ([(55, B v_217)] ++ K) (se E [2]) (v_217 = o_216) a w) ?_ ?_
         ·replace hG := bind_some hG; obtain ⟨v_203o, hy_203, hG⟩ := hG; replace hG := bind_some hG; obtain ⟨v_206o, hy_206, hG⟩ := hG; replace hG := ifB_cases hG; rcases hG with ⟨h_209, hG⟩ | ⟨h_209, hG⟩
          ·refine rg ?_; refine fxn (p := KCopyL.p) inf22 (gd' (RowC p_0_A p_0_c KCopyL.cells KCopyL.ok p_0) 2) hy_203 fun v_203 b_204 o_205 he_203 hi_203 => ?_
           subst he_203
           try (simp only [un2, un3, un4, un5, un6, un7, un8, Sum.elim_inl, Sum.elim_inr, List.length_map, KCopyL.n_Log] at hG; replace hG : _ = _ := hG)
           refine fxn (p := KTxL.p) inf38 (gm (KCopyL.ok v_203) 1 fun _ _ h => h.f_Log) hy_206 fun v_206 b_207 o_208 he_206 hi_206 => ?_
           subst he_206
           try (simp only [un2, un3, un4, un5, un6, un7, un8, Sum.elim_inl, Sum.elim_inr, List.length_map, KCopyL.n_Log] at hG; replace hG : _ = _ := hG)
           refine rn 12 [(2, 0, 0, 0), (1, 1, 2, 1), (1, 0, 0, 0), (1, 1, 0, 2)] (fc (hi_203 .i64) (fc (hi_206 .i64) f0)) [(43, B (decide (((v_206.Reads.length : Nat) : Int) > 20)))] ?_
           try simp only [List.length_map, KCopyL.n_Log] at h_209
           refine sb 43 (bt h_209) ?_; refine ra [] f0 [(55, B true)] ?_; refine tN ?_; exact fun a w S hK hE => ⟨true, S, hK.wk, hE.sel [6], Option.some.inj hG⟩
          ·replace hG := bind_some hG; obtain ⟨v_210o, hy_210, hG⟩ := hG; replace hG := bind_some hG; obtain ⟨v_213o, hy_213, hG⟩ := hG; refine rg ?_; refine fxn (p := KCopyL.p) inf22 (gd' (RowC p_0_A p_0_c KCopyL.cells KCopyL.ok p_0) 2) hy_203 fun v_203 b_204 o_205 he_203 hi_203 => ?_
           subst he_203
           try (simp only [un2, un3, un4, un5, un6, un7, un8, Sum.elim_inl, Sum.elim_inr, List.length_map, KCopyL.n_Log] at hG; replace hG : _ = _ := hG)
           refine fxn (p := KTxL.p) inf38 (gm (KCopyL.ok v_203) 1 fun _ _ h => h.f_Log) hy_206 fun v_206 b_207 o_208 he_206 hi_206 => ?_
           subst he_206
           try (simp only [un2, un3, un4, un5, un6, un7, un8, Sum.elim_inl, Sum.elim_inr, List.length_map, KCopyL.n_Log] at hG; replace hG : _ = _ := hG)
           refine rn 12 [(2, 0, 0, 0), (1, 1, 2, 1), (1, 0, 0, 0), (1, 1, 0, 2)] (fc (hi_203 .i64) (fc (hi_206 .i64) f0)) [(43, B (decide (((v_206.Reads.length : Nat) : Int) > 20)))] ?_
           try simp only [List.length_map, KCopyL.n_Log] at h_209
           refine sb 43 (bf h_209) ?_; refine fxn (p := KCopyL.p) inf22 (gd' (RowC p_0_A p_0_c KCopyL.cells KCopyL.ok p_0) 6) hy_210 fun v_210 b_211 o_212 he_210 hi_210 => ?_
           subst he_210
           try (simp only [un2, un3, un4, un5, un6, un7, un8, Sum.elim_inl, Sum.elim_inr, List.length_map, KCopyL.n_Log] at hG; replace hG : _ = _ := hG)
           refine fxn (p := KTxL.p) inf38 (gm (KCopyL.ok v_210) 1 fun _ _ h => h.f_Log) hy_213 fun v_213 b_214 o_215 he_213 hi_213 => ?_
           subst he_213
           try (simp only [un2, un3, un4, un5, un6, un7, un8, Sum.elim_inl, Sum.elim_inr, List.length_map, KCopyL.n_Log] at hG; replace hG : _ = _ := hG)
           refine ra [(2, 0, 0, 0), (1, 1, 2, 1), (1, 0, 0, 0), (1, 1, 0, 3)] (fc (hi_210 .i64) (fc (hi_213 .i64) f0)) [(55, B (decide (((v_213.Writes.length : Nat) : Int) > 20)))] ?_; refine tN ?_; exact fun a w S hK hE => ⟨decide (((v_213.Writes.length : Nat) : Int) > 20), S, hK.wk, hE.sel [10], Option.some.inj hG⟩
         ·rintro a w ⟨v_217, hJ⟩; refine hJ.go fun ho_ => ?_
          clear hJ; subst ho_; replace hG := hG_216
          try (simp only [un2, un3, un4, un5, un6, un7, un8, Sum.elim_inl, Sum.elim_inr, List.length_map, KCopyL.n_Log] at hG; replace hG : _ = _ := hG)
          rcases ifB_cases hG with ⟨h_218, hG⟩ | ⟨h_218, hG⟩
          ·refine sb 55 (bt h_218) ?_; refine ct ?_; refine sq ?_; refine rg ?_; refine ra [] f0 [(2, B false)] ?_; refine tN ?_; refine kR ?_; refine hR ?_; refine tR ?_; refine tR ?_; have he_ := hO2_198 _ (Option.some.inj hG).symm; subst he_; replace hG := hG_198
           try (simp only [un2, un3, un4, un5, un6, un7, un8, Sum.elim_inl, Sum.elim_inr, List.length_map, KCopyL.n_Log] at hG; replace hG : _ = _ := hG)
           refine hR ?_; refine hR ?_; refine tR ?_; obtain rfl := Option.some.inj hG; replace hG := hG_219
           try (simp only [un2, un3, un4, un5, un6, un7, un8, Sum.elim_inl, Sum.elim_inr, List.length_map, KCopyL.n_Log] at hG; replace hG : _ = _ := hG)
           refine tR ?_; have he_ := hO2_147 _ (Option.some.inj hG).symm; subst he_; replace hG := hG_147
           try (simp only [un2, un3, un4, un5, un6, un7, un8, Sum.elim_inl, Sum.elim_inr, List.length_map, KCopyL.n_Log] at hG; replace hG : _ = _ := hG)
           refine hR ?_; refine tR ?_; obtain rfl := Option.some.inj hG; replace hG := hG_220
           try (simp only [un2, un3, un4, un5, un6, un7, un8, Sum.elim_inl, Sum.elim_inr, List.length_map, KCopyL.n_Log] at hG; replace hG : _ = _ := hG)
           obtain rfl := Option.some.inj hG; exact rt []
          ·refine sb 55 (bf h_218) ?_; refine cf ?_; refine kS ?_; refine hN ?_; refine tN ?_; refine rg ?_; refine ra [] f0 [(4, I (IntKind.i64.wrap (v_197 + 1)))] ?_; refine tN ?_; exact fun a w S hK hE => ⟨m_198, ⟨IntKind.i64.wrap (v_197 + 1), S, hK.wk, hE.sel [0], hO1_198 _ (Option.some.inj hG).symm⟩, Nat.lt_succ_self _⟩
        ·try simp only [List.length_map, KCopyL.n_Log] at h_202
         refine sb 29 (bf h_202) ?_; refine cf ?_; refine kX ?_; refine tX ?_; refine tX ?_; have he_ := hO2_198 _ (Option.some.inj hG).symm; subst he_; replace hG := hG_198
         try (simp only [un2, un3, un4, un5, un6, un7, un8, Sum.elim_inl, Sum.elim_inr, List.length_map, KCopyL.n_Log] at hG; replace hG : _ = _ := hG)
         refine hH ?_; refine hN ?_; refine tN ?_; exact fun a w S hK hE => ⟨S, hK.wk, hE.sel [2], Option.some.inj hG⟩
     ·rintro a w hJ; refine hJ.go fun ho_ => ?_
      clear hJ; subst ho_; replace hG := hG_219
      try (simp only [un2, un3, un4, un5, un6, un7, un8, Sum.elim_inl, Sum.elim_inr, List.length_map, KCopyL.n_Log] at hG; replace hG : _ = _ := hG)
      refine rg ?_; refine ra [] f0 [(3, I (IntKind.i64.wrap (v_146 + 1)))] ?_; refine tN ?_; exact fun a w S hK hE => ⟨m_147, ⟨IntKind.i64.wrap (v_146 + 1), S, hK.wk, hE.sel [0], hO1_147 _ (Option.some.inj hG).symm⟩, Nat.lt_succ_self _⟩
    ·refine sb 12 (bf h_151) ?_; refine cf ?_; refine kX ?_; refine tX ?_; refine tX ?_; have he_ := hO2_147 _ (Option.some.inj hG).symm; subst he_; replace hG := hG_147
     try (simp only [un2, un3, un4, un5, un6, un7, un8, Sum.elim_inl, Sum.elim_inr, List.length_map, KCopyL.n_Log] at hG; replace hG : _ = _ := hG)
     refine hH ?_; refine tN ?_; exact fun a w S hK hE => ⟨S, hK.wk, hE.sel [0], Option.some.inj hG⟩
 ·rintro a w hJ; refine hJ.go fun ho_ => ?_
  clear hJ; subst ho_; replace hG := hG_220
  try (simp only [un2, un3, un4, un5, un6, un7, un8, Sum.elim_inl, Sum.elim_inr, List.length_map, KCopyL.n_Log] at hG; replace hG : _ = _ := hG)
  refine sq ?_; refine rg ?_; refine ra [] f0 [(2, B (decide (((p_0.length : Nat) : Int) ≤ 10)))] ?_; refine tN ?_; refine kR ?_; obtain rfl := Option.some.inj hG; exact rt []
def G_regulatorref38_having (F : Nat) (p_0 : List KCopy) (p_1 : Int) : Option (Int) :=
  Option.bind (Option.bind (iter (σ := Int × Int × Int) (ρ := Int) (un3 fun (v_19 : Int) (v_20 : Int) (v_21 : Int) => 
        (ifB (decide (v_21 < ((p_0.length : Nat) : Int)))
          (Option.bind (Option.bind (ixI p_0 v_21) (fun v_24 =>
            ifB (decide (((v_24.Log.length : Nat) : Int) ≥ v_19))
              (some (IntKind.i64.wrap (v_20 + 1)))
              (some v_20)) : Option (Int)) (fun (v_29 : Int) => 
            some (.inl (v_19, v_29, IntKind.i64.wrap (v_21 + 1)))))
          (some (.inr v_20)) : Option ((Int × Int × Int) ⊕ Int))) F (p_1, 0, 0)) (fun (v_30 : Int) => 
      some v_30) : Option (Int)) (fun (v_32 : Int) => 
    some v_32)
set_option maxRecDepth 100000 in
set_option maxHeartbeats 16000000 in
theorem z_regulatorref38_having (F : Nat) (p_0_A : Option Addr) (p_0_c : Nat) (p_0 : List KCopyL) (p_1 : Int) (r : Int) (hG : G_regulatorref38_having F (p_0.map KCopyL.p) p_1 = some r) :
  Cf Tryz.prog 48 [.slice p_0_A p_0.length p_0_c, I p_1] [RowC p_0_A p_0_c KCopyL.cells KCopyL.ok p_0] (I r) := by
 unfold G_regulatorref38_having at hG
 try (simp only [un2, un3, un4, un5, un6, un7, un8, Sum.elim_inl, Sum.elim_inr, List.length_map, KCopyL.n_Log] at hG; replace hG : _ = _ := hG)
 refine fi Tryz.func48 rfl rfl (mr KCopyL.mv m0) fun S0 w0 hT => ?_
 refine sq ?_; refine rg ?_; refine ra [] f0 [] ?_; refine tN ?_; refine sq ?_; refine rg ?_; refine ra [] f0 [(5, I 0)] ?_; refine tN ?_; obtain ⟨o_31, hG, hG_31⟩ := bind_some hG; refine jn (fun K E a w => ∃ (v_32 : Int), Js S0 w0 24 ([(5, I v_32)] ++ dk [1] K) (se E []) (v_32 = o_31) a w) ?_ ?_
 ·refine sq ?_; refine rg ?_; refine ra [] f0 [(6, I 0)] ?_; refine tN ?_; refine bk ?_; obtain ⟨e_22, hL, hG_22⟩ := bind_some hG; clear hG; obtain ⟨stp_22, hs_22, hL⟩ := iter_gen hL; refine lp (fun K E n_ a w => ∃ (v_19 : Int), ∃ (v_20 : Int), ∃ (v_21 : Int), Js S0 w0 24 ([(1, I v_19), (5, I v_20), (6, I v_21)] ++ K) (se E [0]) (iter stp_22 n_ (v_19, v_20, v_21) = some e_22) a w) F ?_ ?_
  ·exact fun a w S hK hE => ⟨p_1, 0, 0, S, hK.wk, hE.sel [0], hL⟩
  ·clear hL; rintro n_22 a w ⟨v_19, v_20, v_21, hJ⟩; refine hJ.go fun hL => ?_
   clear hJ; obtain ⟨m_22, o_22, rfl, hG, hO1_22, hO2_22⟩ := iter_step hL; clear hL; rw [hs_22] at hG
   try (simp only [un2, un3, un4, un5, un6, un7, un8, Sum.elim_inl, Sum.elim_inr, List.length_map, KCopyL.n_Log] at hG; replace hG : _ = _ := hG)
   refine sq ?_; refine sq ?_; refine rg ?_; refine ra [] f0 [(10, B (decide (v_21 < ((p_0.length : Nat) : Int))))] ?_; refine tN ?_; rcases ifB_cases hG with ⟨h_23, hG⟩ | ⟨h_23, hG⟩
   ·try simp only [List.length_map, KCopyL.n_Log] at h_23
    refine sb 10 (bt h_23) ?_; refine ct ?_; refine kS ?_; refine tN ?_; obtain ⟨o_28, hG, hG_28⟩ := bind_some hG; refine jn (fun K E a w => ∃ (v_29 : Int), Js S0 w0 24 ([(5, I v_29)] ++ K) (se E [0]) (v_29 = o_28) a w) ?_ ?_
    ·refine bk ?_; refine sq ?_; replace hG := bind_some hG; obtain ⟨v_24o, hy_24, hG⟩ := hG; refine rg ?_; refine fxn (p := KCopyL.p) inf22 (gd' (RowC p_0_A p_0_c KCopyL.cells KCopyL.ok p_0) 0) hy_24 fun v_24 b_25 o_26 he_24 hi_24 => ?_
     subst he_24
     try (simp only [un2, un3, un4, un5, un6, un7, un8, Sum.elim_inl, Sum.elim_inr, List.length_map, KCopyL.n_Log] at hG; replace hG : _ = _ := hG)
     refine ra [(2, 0, 0, 0), (1, 1, 0, 1)] (fc (hi_24 .i64) f0) [(20, B (decide (((v_24.Log.length : Nat) : Int) ≥ v_19)))] ?_; refine tN ?_; rcases ifB_cases hG with ⟨h_27, hG⟩ | ⟨h_27, hG⟩
     ·try simp only [List.length_map, KCopyL.n_Log] at h_27
      refine sb 20 (bt h_27) ?_; refine ct ?_; refine rg ?_; refine ra [] f0 [(5, I (IntKind.i64.wrap (v_20 + 1)))] ?_; refine hN ?_; refine tN ?_; exact fun a w S hK hE => ⟨IntKind.i64.wrap (v_20 + 1), S, hK.wk, hE.sel [2], Option.some.inj hG⟩
     ·try simp only [List.length_map, KCopyL.n_Log] at h_27
      refine sb 20 (bf h_27) ?_; refine cf ?_; refine kS ?_; refine hN ?_; refine tN ?_; exact fun a w S hK hE => ⟨v_20, S, hK.wk, hE.sel [2], Option.some.inj hG⟩
    ·rintro a w ⟨v_29, hJ⟩; refine hJ.go fun ho_ => ?_
     clear hJ; subst ho_; replace hG := hG_28
     try (simp only [un2, un3, un4, un5, un6, un7, un8, Sum.elim_inl, Sum.elim_inr, List.length_map, KCopyL.n_Log] at hG; replace hG : _ = _ := hG)
     refine rg ?_; refine ra [] f0 [(6, I (IntKind.i64.wrap (v_21 + 1)))] ?_; refine tN ?_; exact fun a w S hK hE => ⟨m_22, ⟨v_19, v_29, IntKind.i64.wrap (v_21 + 1), S, hK.wk, hE.sel [0], hO1_22 _ (Option.some.inj hG).symm⟩, Nat.lt_succ_self _⟩
   ·try simp only [List.length_map, KCopyL.n_Log] at h_23
    refine sb 10 (bf h_23) ?_; refine cf ?_; refine kX ?_; refine tX ?_; refine tX ?_; have he_ := hO2_22 _ (Option.some.inj hG).symm; subst he_; replace hG := hG_22
    try (simp only [un2, un3, un4, un5, un6, un7, un8, Sum.elim_inl, Sum.elim_inr, List.length_map, KCopyL.n_Log] at hG; replace hG : _ = _ := hG)
    refine hH ?_; refine tN ?_; exact fun a w S hK hE => ⟨v_20, S, hK.wk, hE.sel [], Option.some.inj hG⟩
 ·rintro a w ⟨v_32, hJ⟩; refine hJ.go fun ho_ => ?_
  clear hJ; subst ho_; replace hG := hG_31
  try (simp only [un2, un3, un4, un5, un6, un7, un8, Sum.elim_inl, Sum.elim_inr, List.length_map, KCopyL.n_Log] at hG; replace hG : _ = _ := hG)
  refine sq ?_; refine rg ?_; refine ra [] f0 [(4, I v_32)] ?_; refine tN ?_; refine kR ?_; obtain rfl := Option.some.inj hG; exact rt []
end Go.Proofs.YtkchfmhgboiimaaGreat
namespace Go.Proofs.YtkchfmhgboiimaaGreat
open Go.RowKit Go.Maps
def G_cmp_Compare_int (F : Nat) (p_0 : Int) (p_1 : Int) : Option (Int) :=
 Option.bind (G_cmp_isNaN_int F p_0) (fun v_1 =>
 Option.bind (G_cmp_isNaN_int F p_1) (fun v_2 =>
 ifB (v_1)
  (ifB (v_2)
   (some 0)
   (some (-1)))
  (ifB (v_2)
   (some 1)
   (ifB (decide (p_0 < p_1))
    (some (-1))
    (ifB (decide (p_0 > p_1))
     (some 1)
     (some 0))))))
set_option maxRecDepth 100000 in
set_option maxHeartbeats 16000000 in
theorem z_cmp_Compare_int (F : Nat) (p_0 : Int) (p_1 : Int) (r : Int) (hG : G_cmp_Compare_int F p_0 p_1 = some r) :
  Cf Tryz.prog 37 [I p_0, I p_1] [] (I r) := by
 unfold G_cmp_Compare_int at hG
 try (simp only [un2, un3, un4, un5, un6, un7, un8, Sum.elim_inl, Sum.elim_inr, List.length_map, KCopyL.n_Log] at hG; replace hG : _ = _ := hG)
 refine fi Tryz.func37 rfl rfl m0 fun S0 w0 hT => ?_
 refine sq ?_; refine rg ?_; refine ra [] f0 [] ?_; refine tN ?_; refine sq ?_; replace hG := bind_some hG; obtain ⟨v_1, hy_1, hG⟩ := hG; refine rg ?_; refine rn 1 [] f0 [(7, I p_0)] ?_; refine l1 ?_; refine cl 8 (z_cmp_isNaN_int F p_0 _ hy_1) hT trivial ?_; refine ra [] f0 [(5, B v_1)] ?_; refine tN ?_; refine sq ?_; replace hG := bind_some hG; obtain ⟨v_2, hy_2, hG⟩ := hG; refine rg ?_; refine rn 1 [] f0 [(9, I p_1)] ?_; refine l1 ?_; refine cl 10 (z_cmp_isNaN_int F p_1 _ hy_2) hT trivial ?_; refine ra [] f0 [(6, B v_2)] ?_; refine tN ?_; refine sq ?_; refine sq ?_; refine rg ?_; refine ra [] f0 [(11, B v_1)] ?_; refine tN ?_; rcases ifB_cases hG with ⟨h_3, hG⟩ | ⟨h_3, hG⟩
 ·refine sb 11 (bt h_3) ?_; refine ct ?_; refine sq ?_; refine sq ?_; refine rg ?_; refine ra [] f0 [(12, B v_2)] ?_; refine tN ?_; rcases ifB_cases hG with ⟨h_4, hG⟩ | ⟨h_4, hG⟩
  ·refine sb 12 (bt h_4) ?_; refine ct ?_; refine sq ?_; refine rg ?_; refine ra [] f0 [(4, I 0)] ?_; refine tN ?_; refine kR ?_; refine tR ?_; refine tR ?_; obtain rfl := Option.some.inj hG; exact rt []
  ·refine sb 12 (bf h_4) ?_; refine cf ?_; refine kS ?_; refine tN ?_; refine sq ?_; refine rg ?_; refine ra [] f0 [(4, I (-1))] ?_; refine tN ?_; refine kR ?_; refine tR ?_; obtain rfl := Option.some.inj hG; exact rt []
 ·refine sb 11 (bf h_3) ?_; refine cf ?_; refine kS ?_; refine tN ?_; refine sq ?_; refine sq ?_; refine rg ?_; refine ra [] f0 [(13, B v_2)] ?_; refine tN ?_; rcases ifB_cases hG with ⟨h_5, hG⟩ | ⟨h_5, hG⟩
  ·refine sb 13 (bt h_5) ?_; refine ct ?_; refine sq ?_; refine rg ?_; refine ra [] f0 [(4, I 1)] ?_; refine tN ?_; refine kR ?_; refine tR ?_; obtain rfl := Option.some.inj hG; exact rt []
  ·refine sb 13 (bf h_5) ?_; refine cf ?_; refine kS ?_; refine tN ?_; refine sq ?_; refine sq ?_; refine rg ?_; refine ra [] f0 [(16, B (decide (p_0 < p_1)))] ?_; refine tN ?_; rcases ifB_cases hG with ⟨h_6, hG⟩ | ⟨h_6, hG⟩
   ·refine sb 16 (bt h_6) ?_; refine ct ?_; refine sq ?_; refine rg ?_; refine ra [] f0 [(4, I (-1))] ?_; refine tN ?_; refine kR ?_; refine tR ?_; obtain rfl := Option.some.inj hG; exact rt []
   ·refine sb 16 (bf h_6) ?_; refine cf ?_; refine kS ?_; refine tN ?_; refine sq ?_; refine sq ?_; refine rg ?_; refine ra [] f0 [(19, B (decide (p_0 > p_1)))] ?_; refine tN ?_; rcases ifB_cases hG with ⟨h_7, hG⟩ | ⟨h_7, hG⟩
    ·refine sb 19 (bt h_7) ?_; refine ct ?_; refine sq ?_; refine rg ?_; refine ra [] f0 [(4, I 1)] ?_; refine tN ?_; refine kR ?_; refine tR ?_; obtain rfl := Option.some.inj hG; exact rt []
    ·refine sb 19 (bf h_7) ?_; refine cf ?_; refine kS ?_; refine tN ?_; refine sq ?_; refine rg ?_; refine ra [] f0 [(4, I 0)] ?_; refine tN ?_; refine kR ?_; obtain rfl := Option.some.inj hG; exact rt []
def G_copies_equal (F : Nat) (p_0 : KTx) (p_1 : KTx) : Option (Bool) :=
  Option.bind (ifB ((p_0.ID == p_1.ID))
      (ifB ((p_0.Ts == p_1.Ts))
        (Option.bind (G_slices_Equal_api_Seen_api_Seen F p_0.Reads p_1.Reads) (fun v_5 =>
        ifB (v_5)
          (Option.bind (G_slices_Equal_api_Write_api_Write F p_0.Writes p_1.Writes) (fun v_7 =>
          some v_7))
          (some false)))
        (some false))
      (some false) : Option (Bool)) (fun (v_9 : Bool) => 
    some v_9)
set_option maxRecDepth 100000 in
set_option maxHeartbeats 16000000 in
theorem z_copies_equal (F : Nat) (p_0 : KTxL) (p_1 : KTxL) (r : Bool) (hG : G_copies_equal F p_0.p p_1.p = some r) :
  Cf Tryz.prog 40 [.agg #[I p_0.ID, I p_0.Ts, .slice p_0.Reads_A p_0.Reads.length p_0.Reads_c, .slice p_0.Writes_A p_0.Writes.length p_0.Writes_c], .agg #[I p_1.ID, I p_1.Ts, .slice p_1.Reads_A p_1.Reads.length p_1.Reads_c, .slice p_1.Writes_A p_1.Writes.length p_1.Writes_c]] [KTxL.ok p_0, KTxL.ok p_1] (B r) := by
 unfold G_copies_equal at hG
 try (simp only [un2, un3, un4, un5, un6, un7, un8, Sum.elim_inl, Sum.elim_inr, List.length_map, KCopyL.n_Log] at hG; replace hG : _ = _ := hG)
 refine fi Tryz.func40 rfl rfl (mc KTxL.mv (mc KTxL.mv m0)) fun S0 w0 hT => ?_
 refine sq ?_; refine rg ?_; refine l1 ?_; refine nw 2 vp [I p_0.ID, I p_0.Ts, .slice p_0.Reads_A p_0.Reads.length p_0.Reads_c, .slice p_0.Writes_A p_0.Writes.length p_0.Writes_c] 47 fun g_1 => ?_
 refine l1 ?_; refine nw 3 vp [I p_1.ID, I p_1.Ts, .slice p_1.Reads_A p_1.Reads.length p_1.Reads_c, .slice p_1.Writes_A p_1.Writes.length p_1.Writes_c] 47 fun g_2 => ?_
 refine ra [] f0 [] ?_; refine tN ?_; obtain ⟨o_8, hG, hG_8⟩ := bind_some hG; refine jn (fun K E a w => ∃ (v_9 : Bool), Js S0 w0 31 ([(4, B v_9)] ++ K) (se E []) (v_9 = o_8) a w) ?_ ?_
 ·replace hG := ifB_cases hG; rcases hG with ⟨h_3, hG⟩ | ⟨h_3, hG⟩
  ·replace hG := ifB_cases hG; rcases hG with ⟨h_4, hG⟩ | ⟨h_4, hG⟩
   ·replace hG := bind_some hG; obtain ⟨v_5, hy_5, hG⟩ := hG; replace hG := ifB_cases hG; rcases hG with ⟨h_6, hG⟩ | ⟨h_6, hG⟩
    ·replace hG := bind_some hG; obtain ⟨v_7, hy_7, hG⟩ := hG; refine rg ?_; refine rn 6 [(1, 1, 1, 0), (1, 1, 0, 0)] f0 [(10, B (p_0.ID == p_1.ID))] ?_; refine sb 10 (bt h_3) ?_; refine rn 7 [(1, 1, 1, 1), (1, 1, 0, 1)] f0 [(17, B (p_0.Ts == p_1.Ts))] ?_; refine sb 17 (bt h_4) ?_; refine rn 4 [(1, 1, 1, 2), (1, 1, 0, 2)] f0 [(19, .slice p_0.Reads_A p_0.Reads.length p_0.Reads_c), (21, .slice p_1.Reads_A p_1.Reads.length p_1.Reads_c)] ?_; refine l1 ?_; refine cl 22 (z_slices_Equal_api_Seen_api_Seen F p_0.Reads_A p_0.Reads_c p_0.Reads p_1.Reads_A p_1.Reads_c p_1.Reads _ hy_5) hT ⟨(gm (KTxL.ok p_0) 2 fun _ _ h => h.f_Reads).a, (gm (KTxL.ok p_1) 3 fun _ _ h => h.f_Reads).a, trivial⟩ ?_; refine rn 2 [] f0 [(24, B v_5)] ?_; refine sb 24 (bt h_6) ?_; refine rn 4 [(1, 1, 1, 3), (1, 1, 0, 3)] f0 [(26, .slice p_0.Writes_A p_0.Writes.length p_0.Writes_c), (28, .slice p_1.Writes_A p_1.Writes.length p_1.Writes_c)] ?_; refine l1 ?_; refine cl 29 (z_slices_Equal_api_Write_api_Write F p_0.Writes_A p_0.Writes_c p_0.Writes p_1.Writes_A p_1.Writes_c p_1.Writes _ hy_7) hT ⟨(gm (KTxL.ok p_0) 2 fun _ _ h => h.f_Writes).a, (gm (KTxL.ok p_1) 3 fun _ _ h => h.f_Writes).a, trivial⟩ ?_; refine ra [] f0 [(4, B v_7)] ?_; refine tN ?_; exact fun a w S hK hE => ⟨v_7, S, hK.wk, hE.sel [], Option.some.inj hG⟩
    ·refine rg ?_; refine rn 6 [(1, 1, 1, 0), (1, 1, 0, 0)] f0 [(10, B (p_0.ID == p_1.ID))] ?_; refine sb 10 (bt h_3) ?_; refine rn 7 [(1, 1, 1, 1), (1, 1, 0, 1)] f0 [(17, B (p_0.Ts == p_1.Ts))] ?_; refine sb 17 (bt h_4) ?_; refine rn 4 [(1, 1, 1, 2), (1, 1, 0, 2)] f0 [(19, .slice p_0.Reads_A p_0.Reads.length p_0.Reads_c), (21, .slice p_1.Reads_A p_1.Reads.length p_1.Reads_c)] ?_; refine l1 ?_; refine cl 22 (z_slices_Equal_api_Seen_api_Seen F p_0.Reads_A p_0.Reads_c p_0.Reads p_1.Reads_A p_1.Reads_c p_1.Reads _ hy_5) hT ⟨(gm (KTxL.ok p_0) 2 fun _ _ h => h.f_Reads).a, (gm (KTxL.ok p_1) 3 fun _ _ h => h.f_Reads).a, trivial⟩ ?_; refine rn 2 [] f0 [(24, B v_5)] ?_; refine sb 24 (bf h_6) ?_; refine ra [] f0 [(4, B false)] ?_; refine tN ?_; exact fun a w S hK hE => ⟨false, S, hK.wk, hE.sel [], Option.some.inj hG⟩
   ·refine rg ?_; refine rn 6 [(1, 1, 1, 0), (1, 1, 0, 0)] f0 [(10, B (p_0.ID == p_1.ID))] ?_; refine sb 10 (bt h_3) ?_; refine rn 7 [(1, 1, 1, 1), (1, 1, 0, 1)] f0 [(17, B (p_0.Ts == p_1.Ts))] ?_; refine sb 17 (bf h_4) ?_; refine ra [] f0 [(4, B false)] ?_; refine tN ?_; exact fun a w S hK hE => ⟨false, S, hK.wk, hE.sel [], Option.some.inj hG⟩
  ·refine rg ?_; refine rn 6 [(1, 1, 1, 0), (1, 1, 0, 0)] f0 [(10, B (p_0.ID == p_1.ID))] ?_; refine sb 10 (bf h_3) ?_; refine ra [] f0 [(4, B false)] ?_; refine tN ?_; exact fun a w S hK hE => ⟨false, S, hK.wk, hE.sel [], Option.some.inj hG⟩
 ·rintro a w ⟨v_9, hJ⟩; refine hJ.go fun ho_ => ?_
  clear hJ; subst ho_; replace hG := hG_8
  try (simp only [un2, un3, un4, un5, un6, un7, un8, Sum.elim_inl, Sum.elim_inr, List.length_map, KCopyL.n_Log] at hG; replace hG : _ = _ := hG)
  refine kR ?_; obtain rfl := Option.some.inj hG; exact rt []
def G_copies_wrong_1 (F : Nat) (p_0 : KSeen) : Option (Bool) :=
  Option.bind (ifB (decide (p_0.Key > 1000))
      (some true)
      (Option.bind (G_copies_isTime F p_0.Ts) (fun v_3 =>
      some (!v_3))) : Option (Bool)) (fun (v_5 : Bool) => 
    some v_5)
set_option maxRecDepth 100000 in
set_option maxHeartbeats 16000000 in
theorem z_copies_wrong_1 (F : Nat) (p_0 : KSeen) (r : Bool) (hG : G_copies_wrong_1 F p_0 = some r) :
  Cf Tryz.prog 68 [.agg #[I p_0.Key, I p_0.Ts]] [] (B r) := by
 unfold G_copies_wrong_1 at hG
 try (simp only [un2, un3, un4, un5, un6, un7, un8, Sum.elim_inl, Sum.elim_inr, List.length_map, KCopyL.n_Log] at hG; replace hG : _ = _ := hG)
 refine fi Tryz.func68 rfl rfl m0 fun S0 w0 hT => ?_
 refine sq ?_; refine rg ?_; refine l1 ?_; refine nw 1 vp [I p_0.Key, I p_0.Ts] 90 fun g_1 => ?_
 refine ra [] f0 [] ?_; refine tN ?_; obtain ⟨o_4, hG, hG_4⟩ := bind_some hG; refine jn (fun K E a w => ∃ (v_5 : Bool), Js S0 w0 12 ([(2, B v_5)] ++ K) (se E []) (v_5 = o_4) a w) ?_ ?_
 ·replace hG := ifB_cases hG; rcases hG with ⟨h_2, hG⟩ | ⟨h_2, hG⟩
  ·refine rg ?_; refine rn 4 [(1, 1, 0, 0)] f0 [(6, B (decide (p_0.Key > 1000)))] ?_; refine sb 6 (bt h_2) ?_; refine ra [] f0 [(2, B true)] ?_; refine tN ?_; exact fun a w S hK hE => ⟨true, S, hK.wk, hE.sel [], Option.some.inj hG⟩
  ·replace hG := bind_some hG; obtain ⟨v_3, hy_3, hG⟩ := hG; refine rg ?_; refine rn 4 [(1, 1, 0, 0)] f0 [(6, B (decide (p_0.Key > 1000)))] ?_; refine sb 6 (bf h_2) ?_; refine rn 2 [(1, 1, 0, 1)] f0 [(8, I p_0.Ts)] ?_; refine l1 ?_; refine cl 9 (z_copies_isTime F p_0.Ts _ hy_3) hT trivial ?_; refine ra [] f0 [(2, B (!v_3))] ?_; refine tN ?_; exact fun a w S hK hE => ⟨!v_3, S, hK.wk, hE.sel [], Option.some.inj hG⟩
 ·rintro a w ⟨v_5, hJ⟩; refine hJ.go fun ho_ => ?_
  clear hJ; subst ho_; replace hG := hG_4
  try (simp only [un2, un3, un4, un5, un6, un7, un8, Sum.elim_inl, Sum.elim_inr, List.length_map, KCopyL.n_Log] at hG; replace hG : _ = _ := hG)
  refine kR ?_; obtain rfl := Option.some.inj hG; exact rt []
def G_regulatorref38_reads (F : Nat) (p_0 : List KSeen) : Option (Bool) :=
  Option.bind (Option.bind (iter (σ := Int) (ρ := Unit ⊕ Unit) (fun (v_43 : Int) => 
        (ifB (decide (v_43 < ((p_0.length : Nat) : Int)))
          (Option.bind (ixI p_0 v_43) (fun v_46 =>
          Option.bind (G_regulatorref33_Key F v_46.Key) (fun v_49 =>
          Option.bind (ifB (v_49)
              (Option.bind (ixI p_0 v_43) (fun v_51 =>
              ifB (decide (v_51.Ts < 0))
                (some true)
                (Option.bind (ixI p_0 v_43) (fun v_55 =>
                ifB (decide (v_55.Ts > 3000000000000000))
                  (some true)
                  (ifB (decide (v_43 > 0))
                    (Option.bind (ixI p_0 v_43) (fun v_60 =>
                    Option.bind (ixI p_0 (IntKind.i64.wrap (v_43 - 1))) (fun v_63 =>
                    some (decide (v_60.Key ≤ v_63.Key)))))
                    (some false))))))
              (some true) : Option (Bool)) (fun (v_67 : Bool) => 
            ifB (v_67)
              (some (.inr (.inr ())))
              (some (.inl (IntKind.i64.wrap (v_43 + 1))))))))
          (some (.inr (.inl ()))) : Option (Int ⊕ (Unit ⊕ Unit)))) F 0) (Sum.elim (fun (_ : Unit) => 
      some (.inl ())) (fun (_ : Unit) => 
      some (.inr ()))) : Option (Unit ⊕ Unit)) (Sum.elim (fun (_ : Unit) => 
    some (decide (((p_0.length : Nat) : Int) ≤ 8))) (fun (_ : Unit) => 
    some false))
set_option maxRecDepth 100000 in
set_option maxHeartbeats 16000000 in
theorem z_regulatorref38_reads (F : Nat) (p_0_A : Option Addr) (p_0_c : Nat) (p_0 : List KSeen) (r : Bool) (hG : G_regulatorref38_reads F p_0 = some r) :
  Cf Tryz.prog 97 [.slice p_0_A p_0.length p_0_c] [RowC p_0_A p_0_c KSeen.cells tr p_0] (B r) := by
 unfold G_regulatorref38_reads at hG
 try (simp only [un2, un3, un4, un5, un6, un7, un8, Sum.elim_inl, Sum.elim_inr, List.length_map, KCopyL.n_Log] at hG; replace hG : _ = _ := hG)
 refine fi Tryz.func97 rfl rfl (mr tr_mv m0) fun S0 w0 hT => ?_
 refine sq ?_; refine rg ?_; refine ra [] f0 [] ?_; refine tN ?_; obtain ⟨o_69, hG, hG_69⟩ := bind_some hG; refine jn (fun K E a w => Js S0 w0 56 (K) (se E [0]) (.inl () = o_69) a w) ?_ ?_
 ·refine sq ?_; refine rg ?_; refine ra [] f0 [(3, I 0)] ?_; refine tN ?_; refine bk ?_; obtain ⟨e_44, hL, hG_44⟩ := bind_some hG; clear hG; obtain ⟨stp_44, hs_44, hL⟩ := iter_gen hL; refine lp (fun K E n_ a w => ∃ (v_43 : Int), Js S0 w0 56 ([(3, I v_43)] ++ K) (se E [0]) (iter stp_44 n_ v_43 = some e_44) a w) F ?_ ?_
  ·exact fun a w S hK hE => ⟨0, S, hK.wk, hE.sel [0], hL⟩
  ·clear hL; rintro n_44 a w ⟨v_43, hJ⟩; refine hJ.go fun hL => ?_
   clear hJ; obtain ⟨m_44, o_44, rfl, hG, hO1_44, hO2_44⟩ := iter_step hL; clear hL; rw [hs_44] at hG
   try (simp only [un2, un3, un4, un5, un6, un7, un8, Sum.elim_inl, Sum.elim_inr, List.length_map, KCopyL.n_Log] at hG; replace hG : _ = _ := hG)
   refine sq ?_; refine sq ?_; refine rg ?_; refine ra [] f0 [(8, B (decide (v_43 < ((p_0.length : Nat) : Int))))] ?_; refine tN ?_; rcases ifB_cases hG with ⟨h_45, hG⟩ | ⟨h_45, hG⟩
   ·try simp only [List.length_map, KCopyL.n_Log] at h_45
    refine sb 8 (bt h_45) ?_; refine ct ?_; refine kS ?_; refine tN ?_; refine sq ?_; refine bk ?_; refine sq ?_; replace hG := bind_some hG; obtain ⟨v_46, hy_46, hG⟩ := hG; replace hG := bind_some hG; obtain ⟨v_49, hy_49, hG⟩ := hG; refine rg ?_; refine fx inf44 (gd' (RowC p_0_A p_0_c KSeen.cells tr p_0) 0) hy_46 fun b_47 o_48 hi_46 => ?_
    refine rn 5 [(2, 0, 0, 0), (1, 1, 0, 0)] (fc (hi_46 .i64) f0) [(15, I v_46.Key)] ?_; refine l1 ?_; refine cl 16 (z_regulatorref33_Key F v_46.Key _ hy_49) hT trivial ?_; refine ra [] f0 [(4, B v_49)] ?_; refine tN ?_; obtain ⟨o_66, hG, hG_66⟩ := bind_some hG; refine jn (fun K E a w => ∃ (v_67 : Bool), Js S0 w0 56 ([(52, B v_67)] ++ K) (se E [1]) (v_67 = o_66) a w) ?_ ?_
    ·replace hG := ifB_cases hG; rcases hG with ⟨h_50, hG⟩ | ⟨h_50, hG⟩
     ·replace hG := bind_some hG; obtain ⟨v_51, hy_51, hG⟩ := hG; replace hG := ifB_cases hG; rcases hG with ⟨h_54, hG⟩ | ⟨h_54, hG⟩
      ·refine qb ?_; refine qn 3 [] f0 [(19, B (!v_49))] ?_; refine sb 19 (nt h_50) ?_; refine fx inf44 (gd' (RowC p_0_A p_0_c KSeen.cells tr p_0) 1) hy_51 fun b_52 o_53 hi_51 => ?_
       refine qn 8 [(2, 0, 0, 0), (1, 1, 0, 1)] (fc (hi_51 .i64) f0) [(27, B (decide (v_51.Ts < 0)))] ?_; refine sb 27 (bt h_54) ?_; refine qa [] f0 [(52, B true)] ?_; refine tN ?_; exact fun a w S hK hE => ⟨true, S, hK.wk, hE.sel [2], Option.some.inj hG⟩
      ·replace hG := bind_some hG; obtain ⟨v_55, hy_55, hG⟩ := hG; replace hG := ifB_cases hG; rcases hG with ⟨h_58, hG⟩ | ⟨h_58, hG⟩
       ·refine qb ?_; refine qn 3 [] f0 [(19, B (!v_49))] ?_; refine sb 19 (nt h_50) ?_; refine fx inf44 (gd' (RowC p_0_A p_0_c KSeen.cells tr p_0) 1) hy_51 fun b_52 o_53 hi_51 => ?_
        refine qn 8 [(2, 0, 0, 0), (1, 1, 0, 1)] (fc (hi_51 .i64) f0) [(27, B (decide (v_51.Ts < 0)))] ?_; refine sb 27 (bf h_54) ?_; refine fx inf44 (gd' (RowC p_0_A p_0_c KSeen.cells tr p_0) 2) hy_55 fun b_56 o_57 hi_55 => ?_
        refine qn 8 [(2, 0, 0, 0), (1, 1, 0, 1)] (fc (hi_55 .i64) f0) [(35, B (decide (v_55.Ts > 3000000000000000)))] ?_; refine sb 35 (bt h_58) ?_; refine qa [] f0 [(52, B true)] ?_; refine tN ?_; exact fun a w S hK hE => ⟨true, S, hK.wk, hE.sel [3], Option.some.inj hG⟩
       ·replace hG := ifB_cases hG; rcases hG with ⟨h_59, hG⟩ | ⟨h_59, hG⟩
        ·replace hG := bind_some hG; obtain ⟨v_60, hy_60, hG⟩ := hG; replace hG := bind_some hG; obtain ⟨v_63, hy_63, hG⟩ := hG; refine qb ?_; refine qn 3 [] f0 [(19, B (!v_49))] ?_; refine sb 19 (nt h_50) ?_; refine fx inf44 (gd' (RowC p_0_A p_0_c KSeen.cells tr p_0) 1) hy_51 fun b_52 o_53 hi_51 => ?_
         refine qn 8 [(2, 0, 0, 0), (1, 1, 0, 1)] (fc (hi_51 .i64) f0) [(27, B (decide (v_51.Ts < 0)))] ?_; refine sb 27 (bf h_54) ?_; refine fx inf44 (gd' (RowC p_0_A p_0_c KSeen.cells tr p_0) 2) hy_55 fun b_56 o_57 hi_55 => ?_
         refine qn 8 [(2, 0, 0, 0), (1, 1, 0, 1)] (fc (hi_55 .i64) f0) [(35, B (decide (v_55.Ts > 3000000000000000)))] ?_; refine sb 35 (bf h_58) ?_; refine qn 3 [] f0 [(38, B (decide (v_43 > 0)))] ?_; refine sb 38 (bt h_59) ?_; refine fx inf44 (gd' (RowC p_0_A p_0_c KSeen.cells tr p_0) 3) hy_60 fun b_61 o_62 hi_60 => ?_
         refine fx inf44 (gd' (RowC p_0_A p_0_c KSeen.cells tr p_0) 4) hy_63 fun b_64 o_65 hi_63 => ?_
         refine qa [(2, 0, 0, 0), (1, 1, 1, 0), (3, 0, 0, 0), (1, 1, 0, 0)] (fc (hi_60 .i64) (fc (hi_63 .i64) f0)) [(52, B (decide (v_60.Key ≤ v_63.Key)))] ?_; refine tN ?_; exact fun a w S hK hE => ⟨decide (v_60.Key ≤ v_63.Key), S, hK.wk, hE.sel [5], Option.some.inj hG⟩
        ·refine qb ?_; refine qn 3 [] f0 [(19, B (!v_49))] ?_; refine sb 19 (nt h_50) ?_; refine fx inf44 (gd' (RowC p_0_A p_0_c KSeen.cells tr p_0) 1) hy_51 fun b_52 o_53 hi_51 => ?_
         refine qn 8 [(2, 0, 0, 0), (1, 1, 0, 1)] (fc (hi_51 .i64) f0) [(27, B (decide (v_51.Ts < 0)))] ?_; refine sb 27 (bf h_54) ?_; refine fx inf44 (gd' (RowC p_0_A p_0_c KSeen.cells tr p_0) 2) hy_55 fun b_56 o_57 hi_55 => ?_
         refine qn 8 [(2, 0, 0, 0), (1, 1, 0, 1)] (fc (hi_55 .i64) f0) [(35, B (decide (v_55.Ts > 3000000000000000)))] ?_; refine sb 35 (bf h_58) ?_; refine qn 3 [] f0 [(38, B (decide (v_43 > 0)))] ?_; refine sb 38 (bf h_59) ?_; refine qa [] f0 [(52, B false)] ?_; refine tN ?_; exact fun a w S hK hE => ⟨false, S, hK.wk, hE.sel [3], Option.some.inj hG⟩
     ·refine qb ?_; refine qn 3 [] f0 [(19, B (!v_49))] ?_; refine sb 19 (nf h_50) ?_; refine qa [] f0 [(52, B true)] ?_; refine tN ?_; exact fun a w S hK hE => ⟨true, S, hK.wk, hE.sel [1], Option.some.inj hG⟩
    ·rintro a w ⟨v_67, hJ⟩; refine hJ.go fun ho_ => ?_
     clear hJ; subst ho_; replace hG := hG_66
     try (simp only [un2, un3, un4, un5, un6, un7, un8, Sum.elim_inl, Sum.elim_inr, List.length_map, KCopyL.n_Log] at hG; replace hG : _ = _ := hG)
     rcases ifB_cases hG with ⟨h_68, hG⟩ | ⟨h_68, hG⟩
     ·refine sb 52 (bt h_68) ?_; refine ct ?_; refine sq ?_; refine rg ?_; refine ra [] f0 [(2, B false)] ?_; refine tN ?_; refine kR ?_; refine hR ?_; refine tR ?_; refine tR ?_; have he_ := hO2_44 _ (Option.some.inj hG).symm; subst he_; replace hG := hG_44
      try (simp only [un2, un3, un4, un5, un6, un7, un8, Sum.elim_inl, Sum.elim_inr, List.length_map, KCopyL.n_Log] at hG; replace hG : _ = _ := hG)
      refine hR ?_; refine tR ?_; obtain rfl := Option.some.inj hG; replace hG := hG_69
      try (simp only [un2, un3, un4, un5, un6, un7, un8, Sum.elim_inl, Sum.elim_inr, List.length_map, KCopyL.n_Log] at hG; replace hG : _ = _ := hG)
      obtain rfl := Option.some.inj hG; exact rt []
     ·refine sb 52 (bf h_68) ?_; refine cf ?_; refine kS ?_; refine hN ?_; refine tN ?_; refine rg ?_; refine ra [] f0 [(3, I (IntKind.i64.wrap (v_43 + 1)))] ?_; refine tN ?_; exact fun a w S hK hE => ⟨m_44, ⟨IntKind.i64.wrap (v_43 + 1), S, hK.wk, hE.sel [0], hO1_44 _ (Option.some.inj hG).symm⟩, Nat.lt_succ_self _⟩
   ·try simp only [List.length_map, KCopyL.n_Log] at h_45
    refine sb 8 (bf h_45) ?_; refine cf ?_; refine kX ?_; refine tX ?_; refine tX ?_; have he_ := hO2_44 _ (Option.some.inj hG).symm; subst he_; replace hG := hG_44
    try (simp only [un2, un3, un4, un5, un6, un7, un8, Sum.elim_inl, Sum.elim_inr, List.length_map, KCopyL.n_Log] at hG; replace hG : _ = _ := hG)
    refine hH ?_; refine tN ?_; exact fun a w S hK hE => ⟨S, hK.wk, hE.sel [0], Option.some.inj hG⟩
 ·rintro a w hJ; refine hJ.go fun ho_ => ?_
  clear hJ; subst ho_; replace hG := hG_69
  try (simp only [un2, un3, un4, un5, un6, un7, un8, Sum.elim_inl, Sum.elim_inr, List.length_map, KCopyL.n_Log] at hG; replace hG : _ = _ := hG)
  refine sq ?_; refine rg ?_; refine ra [] f0 [(2, B (decide (((p_0.length : Nat) : Int) ≤ 8)))] ?_; refine tN ?_; refine kR ?_; obtain rfl := Option.some.inj hG; exact rt []
def G_regulatorref33_Version (F : Nat) (p_0 : KVersion) : Option (Bool) :=
 Option.bind (Option.bind (G_regulatorref33_Key F p_0.Key) (fun v_2 =>
  ifB (v_2)
   (Option.bind (G_regulatorref33_Stamp F p_0.Ts) (fun v_4 =>
   ifB (v_4)
    (ifB (decide (p_0.Value ≥ 0))
     (ifB (decide (p_0.Value ≤ 1000000))
      (ifB (p_0.Gone)
       (some (p_0.Value == 0))
       (some true))
      (some false))
     (some false))
    (some false)))
   (some false)) : Option (Bool)) (fun (v_10 : Bool) =>
  some v_10)
set_option maxRecDepth 100000 in
set_option maxHeartbeats 16000000 in
theorem z_regulatorref33_Version (F : Nat) (p_0 : KVersion) (r : Bool) (hG : G_regulatorref33_Version F p_0 = some r) :
  Cf Tryz.prog 91 [.agg #[I p_0.Key, I p_0.Ts, I p_0.Value, B p_0.Gone]] [] (B r) := by
 unfold G_regulatorref33_Version at hG
 try (simp only [un2, un3, un4, un5, un6, un7, un8, Sum.elim_inl, Sum.elim_inr, List.length_map, KCopyL.n_Log] at hG; replace hG : _ = _ := hG)
 refine fi Tryz.func91 rfl rfl m0 fun S0 w0 hT => ?_
 refine sq ?_; refine rg ?_; refine l1 ?_; refine nw 1 vp [I p_0.Key, I p_0.Ts, I p_0.Value, B p_0.Gone] 50 fun g_1 => ?_
 refine ra [] f0 [] ?_; refine tN ?_; obtain ⟨o_9, hG, hG_9⟩ := bind_some hG; refine jn (fun K E a w => ∃ (v_10 : Bool), Js S0 w0 31 ([(2, B v_10)] ++ K) (se E []) (v_10 = o_9) a w) ?_ ?_
 ·replace hG := bind_some hG; obtain ⟨v_2, hy_2, hG⟩ := hG; replace hG := ifB_cases hG; rcases hG with ⟨h_3, hG⟩ | ⟨h_3, hG⟩
  ·replace hG := bind_some hG; obtain ⟨v_4, hy_4, hG⟩ := hG; replace hG := ifB_cases hG; rcases hG with ⟨h_5, hG⟩ | ⟨h_5, hG⟩
   ·replace hG := ifB_cases hG; rcases hG with ⟨h_6, hG⟩ | ⟨h_6, hG⟩
    ·replace hG := ifB_cases hG; rcases hG with ⟨h_7, hG⟩ | ⟨h_7, hG⟩
     ·replace hG := ifB_cases hG; rcases hG with ⟨h_8, hG⟩ | ⟨h_8, hG⟩
      ·refine rg ?_; refine rn 2 [(1, 1, 0, 0)] f0 [(4, I p_0.Key)] ?_; refine l1 ?_; refine cl 5 (z_regulatorref33_Key F p_0.Key _ hy_2) hT trivial ?_; refine rn 1 [] f0 [(6, B v_2)] ?_; refine sb 6 (bt h_3) ?_; refine rn 2 [(1, 1, 0, 1)] f0 [(8, I p_0.Ts)] ?_; refine l1 ?_; refine cl 9 (z_regulatorref33_Stamp F p_0.Ts _ hy_4) hT trivial ?_; refine rn 2 [] f0 [(11, B v_4)] ?_; refine sb 11 (bt h_5) ?_; refine rn 5 [(1, 1, 0, 2)] f0 [(16, B (decide (p_0.Value ≥ 0)))] ?_; refine sb 16 (bt h_6) ?_; refine rn 5 [(1, 1, 0, 2)] f0 [(21, B (decide (p_0.Value ≤ 1000000)))] ?_; refine sb 21 (bt h_7) ?_; refine rn 4 [(1, 1, 0, 3)] f0 [(25, B (!p_0.Gone))] ?_; refine sb 25 (nt h_8) ?_; refine ra [(1, 1, 0, 2)] f0 [(2, B (p_0.Value == 0))] ?_; refine tN ?_; exact fun a w S hK hE => ⟨(p_0.Value == 0), S, hK.wk, hE.sel [], Option.some.inj hG⟩
      ·refine rg ?_; refine rn 2 [(1, 1, 0, 0)] f0 [(4, I p_0.Key)] ?_; refine l1 ?_; refine cl 5 (z_regulatorref33_Key F p_0.Key _ hy_2) hT trivial ?_; refine rn 1 [] f0 [(6, B v_2)] ?_; refine sb 6 (bt h_3) ?_; refine rn 2 [(1, 1, 0, 1)] f0 [(8, I p_0.Ts)] ?_; refine l1 ?_; refine cl 9 (z_regulatorref33_Stamp F p_0.Ts _ hy_4) hT trivial ?_; refine rn 2 [] f0 [(11, B v_4)] ?_; refine sb 11 (bt h_5) ?_; refine rn 5 [(1, 1, 0, 2)] f0 [(16, B (decide (p_0.Value ≥ 0)))] ?_; refine sb 16 (bt h_6) ?_; refine rn 5 [(1, 1, 0, 2)] f0 [(21, B (decide (p_0.Value ≤ 1000000)))] ?_; refine sb 21 (bt h_7) ?_; refine rn 4 [(1, 1, 0, 3)] f0 [(25, B (!p_0.Gone))] ?_; refine sb 25 (nf h_8) ?_; refine ra [] f0 [(2, B true)] ?_; refine tN ?_; exact fun a w S hK hE => ⟨true, S, hK.wk, hE.sel [], Option.some.inj hG⟩
     ·refine rg ?_; refine rn 2 [(1, 1, 0, 0)] f0 [(4, I p_0.Key)] ?_; refine l1 ?_; refine cl 5 (z_regulatorref33_Key F p_0.Key _ hy_2) hT trivial ?_; refine rn 1 [] f0 [(6, B v_2)] ?_; refine sb 6 (bt h_3) ?_; refine rn 2 [(1, 1, 0, 1)] f0 [(8, I p_0.Ts)] ?_; refine l1 ?_; refine cl 9 (z_regulatorref33_Stamp F p_0.Ts _ hy_4) hT trivial ?_; refine rn 2 [] f0 [(11, B v_4)] ?_; refine sb 11 (bt h_5) ?_; refine rn 5 [(1, 1, 0, 2)] f0 [(16, B (decide (p_0.Value ≥ 0)))] ?_; refine sb 16 (bt h_6) ?_; refine rn 5 [(1, 1, 0, 2)] f0 [(21, B (decide (p_0.Value ≤ 1000000)))] ?_; refine sb 21 (bf h_7) ?_; refine ra [] f0 [(2, B false)] ?_; refine tN ?_; exact fun a w S hK hE => ⟨false, S, hK.wk, hE.sel [], Option.some.inj hG⟩
    ·refine rg ?_; refine rn 2 [(1, 1, 0, 0)] f0 [(4, I p_0.Key)] ?_; refine l1 ?_; refine cl 5 (z_regulatorref33_Key F p_0.Key _ hy_2) hT trivial ?_; refine rn 1 [] f0 [(6, B v_2)] ?_; refine sb 6 (bt h_3) ?_; refine rn 2 [(1, 1, 0, 1)] f0 [(8, I p_0.Ts)] ?_; refine l1 ?_; refine cl 9 (z_regulatorref33_Stamp F p_0.Ts _ hy_4) hT trivial ?_; refine rn 2 [] f0 [(11, B v_4)] ?_; refine sb 11 (bt h_5) ?_; refine rn 5 [(1, 1, 0, 2)] f0 [(16, B (decide (p_0.Value ≥ 0)))] ?_; refine sb 16 (bf h_6) ?_; refine ra [] f0 [(2, B false)] ?_; refine tN ?_; exact fun a w S hK hE => ⟨false, S, hK.wk, hE.sel [], Option.some.inj hG⟩
   ·refine rg ?_; refine rn 2 [(1, 1, 0, 0)] f0 [(4, I p_0.Key)] ?_; refine l1 ?_; refine cl 5 (z_regulatorref33_Key F p_0.Key _ hy_2) hT trivial ?_; refine rn 1 [] f0 [(6, B v_2)] ?_; refine sb 6 (bt h_3) ?_; refine rn 2 [(1, 1, 0, 1)] f0 [(8, I p_0.Ts)] ?_; refine l1 ?_; refine cl 9 (z_regulatorref33_Stamp F p_0.Ts _ hy_4) hT trivial ?_; refine rn 2 [] f0 [(11, B v_4)] ?_; refine sb 11 (bf h_5) ?_; refine ra [] f0 [(2, B false)] ?_; refine tN ?_; exact fun a w S hK hE => ⟨false, S, hK.wk, hE.sel [], Option.some.inj hG⟩
  ·refine rg ?_; refine rn 2 [(1, 1, 0, 0)] f0 [(4, I p_0.Key)] ?_; refine l1 ?_; refine cl 5 (z_regulatorref33_Key F p_0.Key _ hy_2) hT trivial ?_; refine rn 1 [] f0 [(6, B v_2)] ?_; refine sb 6 (bf h_3) ?_; refine ra [] f0 [(2, B false)] ?_; refine tN ?_; exact fun a w S hK hE => ⟨false, S, hK.wk, hE.sel [], Option.some.inj hG⟩
 ·rintro a w ⟨v_10, hJ⟩; refine hJ.go fun ho_ => ?_
  clear hJ; subst ho_; replace hG := hG_9
  try (simp only [un2, un3, un4, un5, un6, un7, un8, Sum.elim_inl, Sum.elim_inr, List.length_map, KCopyL.n_Log] at hG; replace hG : _ = _ := hG)
  refine kR ?_; obtain rfl := Option.some.inj hG; exact rt []
def G_regulatorref38_SameLog (F : Nat) (p_0 : List KTx) (p_1 : List KTx) : Option (Bool) :=
  ifB ((((p_0.length : Nat) : Int) == ((p_1.length : Nat) : Int)))
    (Option.bind (Option.bind (iter (σ := Int) (ρ := Unit ⊕ Unit) (fun (v_21 : Int) => 
          (ifB (decide (v_21 < ((p_0.length : Nat) : Int)))
            (Option.bind (ixI p_0 v_21) (fun v_24 =>
            Option.bind (ixI p_1 v_21) (fun v_27 =>
            Option.bind (G_regulatorref38_SameTx F v_24 v_27) (fun v_30 =>
            ifB (v_30)
              (some (.inl (IntKind.i64.wrap (v_21 + 1))))
              (some (.inr (.inr ())))))))
            (some (.inr (.inl ()))) : Option (Int ⊕ (Unit ⊕ Unit)))) F 0) (Sum.elim (fun (_ : Unit) => 
        some (.inl ())) (fun (_ : Unit) => 
        some (.inr ()))) : Option (Unit ⊕ Unit)) (Sum.elim (fun (_ : Unit) => 
      some true) (fun (_ : Unit) => 
      some false)))
    (some false)
set_option maxRecDepth 100000 in
set_option maxHeartbeats 16000000 in
theorem z_regulatorref38_SameLog (F : Nat) (p_0_A : Option Addr) (p_0_c : Nat) (p_0 : List KTxL) (p_1_A : Option Addr) (p_1_c : Nat) (p_1 : List KTxL) (r : Bool) (hG : G_regulatorref38_SameLog F (p_0.map KTxL.p) (p_1.map KTxL.p) = some r) :
  Cf Tryz.prog 25 [.slice p_0_A p_0.length p_0_c, .slice p_1_A p_1.length p_1_c] [RowC p_0_A p_0_c KTxL.cells KTxL.ok p_0, RowC p_1_A p_1_c KTxL.cells KTxL.ok p_1] (B r) := by
 unfold G_regulatorref38_SameLog at hG
 try (simp only [un2, un3, un4, un5, un6, un7, un8, Sum.elim_inl, Sum.elim_inr, List.length_map, KCopyL.n_Log] at hG; replace hG : _ = _ := hG)
 refine fi Tryz.func25 rfl rfl (mr KTxL.mv (mr KTxL.mv m0)) fun S0 w0 hT => ?_
 refine sq ?_; refine rg ?_; refine ra [] f0 [] ?_; refine tN ?_; refine sq ?_; refine sq ?_; refine rg ?_; refine ra [] f0 [(11, B (!(((p_0.length : Nat) : Int) == ((p_1.length : Nat) : Int))))] ?_; refine tN ?_; rcases ifB_cases hG with ⟨h_1, hG⟩ | ⟨h_1, hG⟩
 ·try simp only [List.length_map, KCopyL.n_Log] at h_1
  refine sb 11 (nt h_1) ?_; refine cf ?_; refine kS ?_; refine tN ?_; obtain ⟨o_32, hG, hG_32⟩ := bind_some hG; refine jn (fun K E a w => Js S0 w0 29 (K) (se E []) (.inl () = o_32) a w) ?_ ?_
  ·refine sq ?_; refine rg ?_; refine ra [] f0 [(5, I 0)] ?_; refine tN ?_; refine bk ?_; obtain ⟨e_22, hL, hG_22⟩ := bind_some hG; clear hG; obtain ⟨stp_22, hs_22, hL⟩ := iter_gen hL; refine lp (fun K E n_ a w => ∃ (v_21 : Int), Js S0 w0 29 ([(5, I v_21)] ++ K) (se E [0, 1]) (iter stp_22 n_ v_21 = some e_22) a w) F ?_ ?_
   ·exact fun a w S hK hE => ⟨0, S, hK.wk, hE.sel [0, 1], hL⟩
   ·clear hL; rintro n_22 a w ⟨v_21, hJ⟩; refine hJ.go fun hL => ?_
    clear hJ; obtain ⟨m_22, o_22, rfl, hG, hO1_22, hO2_22⟩ := iter_step hL; clear hL; rw [hs_22] at hG
    try (simp only [un2, un3, un4, un5, un6, un7, un8, Sum.elim_inl, Sum.elim_inr, List.length_map, KCopyL.n_Log] at hG; replace hG : _ = _ := hG)
    refine sq ?_; refine sq ?_; refine rg ?_; refine ra [] f0 [(15, B (decide (v_21 < ((p_0.length : Nat) : Int))))] ?_; refine tN ?_; rcases ifB_cases hG with ⟨h_23, hG⟩ | ⟨h_23, hG⟩
    ·try simp only [List.length_map, KCopyL.n_Log] at h_23
     refine sb 15 (bt h_23) ?_; refine ct ?_; refine kS ?_; refine tN ?_; refine sq ?_; refine bk ?_; refine sq ?_; replace hG := bind_some hG; obtain ⟨v_24o, hy_24, hG⟩ := hG; replace hG := bind_some hG; obtain ⟨v_27o, hy_27, hG⟩ := hG; replace hG := bind_some hG; obtain ⟨v_30, hy_30, hG⟩ := hG; refine qb ?_; refine fxn (p := KTxL.p) inf38 (gd' (RowC p_0_A p_0_c KTxL.cells KTxL.ok p_0) 0) hy_24 fun v_24 b_25 o_26 he_24 hi_24 => ?_
     subst he_24
     try (simp only [un2, un3, un4, un5, un6, un7, un8, Sum.elim_inl, Sum.elim_inr, List.length_map, KCopyL.n_Log] at hG; replace hG : _ = _ := hG)
     refine fxn (p := KTxL.p) inf38 (gd' (RowC p_1_A p_1_c KTxL.cells KTxL.ok p_1) 3) hy_27 fun v_27 b_28 o_29 he_27 hi_27 => ?_
     subst he_27
     try (simp only [un2, un3, un4, un5, un6, un7, un8, Sum.elim_inl, Sum.elim_inr, List.length_map, KCopyL.n_Log] at hG; replace hG : _ = _ := hG)
     refine qn 8 [(2, 0, 0, 0), (0, 4, 2, 0), (2, 0, 0, 0), (0, 4, 0, 0)] (fc (hi_24 .i64) (fc (hi_27 .i64) f0)) [(21, .agg #[I v_24.ID, I v_24.Ts, .slice v_24.Reads_A v_24.Reads.length v_24.Reads_c, .slice v_24.Writes_A v_24.Writes.length v_24.Writes_c]), (25, .agg #[I v_27.ID, I v_27.Ts, .slice v_27.Reads_A v_27.Reads.length v_27.Reads_c, .slice v_27.Writes_A v_27.Writes.length v_27.Writes_c])] ?_; refine qc 26 (z_regulatorref38_SameTx F v_24 v_27 _ hy_30) hT ⟨(gi 3).a, (gi 1).a, trivial⟩ ?_; refine qa [] f0 [(6, B v_30)] ?_; refine tN ?_; refine sq ?_; refine rg ?_; refine ra [] f0 [(28, B (!v_30))] ?_; refine tN ?_; rcases ifB_cases hG with ⟨h_31, hG⟩ | ⟨h_31, hG⟩
     ·refine sb 28 (nt h_31) ?_; refine cf ?_; refine kS ?_; refine hN ?_; refine tN ?_; refine rg ?_; refine ra [] f0 [(5, I (IntKind.i64.wrap (v_21 + 1)))] ?_; refine tN ?_; exact fun a w S hK hE => ⟨m_22, ⟨IntKind.i64.wrap (v_21 + 1), S, hK.wk, hE.sel [4, 5], hO1_22 _ (Option.some.inj hG).symm⟩, Nat.lt_succ_self _⟩
     ·refine sb 28 (nf h_31) ?_; refine ct ?_; refine sq ?_; refine rg ?_; refine ra [] f0 [(4, B false)] ?_; refine tN ?_; refine kR ?_; refine hR ?_; refine tR ?_; refine tR ?_; have he_ := hO2_22 _ (Option.some.inj hG).symm; subst he_; replace hG := hG_22
      try (simp only [un2, un3, un4, un5, un6, un7, un8, Sum.elim_inl, Sum.elim_inr, List.length_map, KCopyL.n_Log] at hG; replace hG : _ = _ := hG)
      refine hR ?_; refine tR ?_; obtain rfl := Option.some.inj hG; replace hG := hG_32
      try (simp only [un2, un3, un4, un5, un6, un7, un8, Sum.elim_inl, Sum.elim_inr, List.length_map, KCopyL.n_Log] at hG; replace hG : _ = _ := hG)
      obtain rfl := Option.some.inj hG; exact rt []
    ·try simp only [List.length_map, KCopyL.n_Log] at h_23
     refine sb 15 (bf h_23) ?_; refine cf ?_; refine kX ?_; refine tX ?_; refine tX ?_; have he_ := hO2_22 _ (Option.some.inj hG).symm; subst he_; replace hG := hG_22
     try (simp only [un2, un3, un4, un5, un6, un7, un8, Sum.elim_inl, Sum.elim_inr, List.length_map, KCopyL.n_Log] at hG; replace hG : _ = _ := hG)
     refine hH ?_; refine tN ?_; exact fun a w S hK hE => ⟨S, hK.wk, hE.sel [], Option.some.inj hG⟩
  ·rintro a w hJ; refine hJ.go fun ho_ => ?_
   clear hJ; subst ho_; replace hG := hG_32
   try (simp only [un2, un3, un4, un5, un6, un7, un8, Sum.elim_inl, Sum.elim_inr, List.length_map, KCopyL.n_Log] at hG; replace hG : _ = _ := hG)
   refine sq ?_; refine rg ?_; refine ra [] f0 [(4, B true)] ?_; refine tN ?_; refine kR ?_; obtain rfl := Option.some.inj hG; exact rt []
 ·try simp only [List.length_map, KCopyL.n_Log] at h_1
  refine sb 11 (nf h_1) ?_; refine ct ?_; refine sq ?_; refine rg ?_; refine ra [] f0 [(4, B false)] ?_; refine tN ?_; refine kR ?_; refine tR ?_; obtain rfl := Option.some.inj hG; exact rt []
end Go.Proofs.YtkchfmhgboiimaaGreat
namespace Go.Proofs.YtkchfmhgboiimaaGreat
open Go.RowKit Go.Maps
def G_copies_Valid_1 (F : Nat) (p_0 : KCopy) (p_1 : KCopy) : Option (Int) :=
 Option.bind (G_copies_size F p_0) (fun v_3 =>
 Option.bind (G_copies_size F p_1) (fun v_4 =>
 Option.bind (G_cmp_Compare_int F v_3 v_4) (fun v_5 =>
 some v_5)))
set_option maxRecDepth 100000 in
set_option maxHeartbeats 16000000 in
theorem z_copies_Valid_1 (F : Nat) (p_0 : KCopyL) (p_1 : KCopyL) (r : Int) (hG : G_copies_Valid_1 F p_0.p p_1.p = some r) :
  Cf Tryz.prog 36 [.agg #[I p_0.ID, .slice p_0.Log_A p_0.Log.length p_0.Log_c], .agg #[I p_1.ID, .slice p_1.Log_A p_1.Log.length p_1.Log_c]] [KCopyL.ok p_0, KCopyL.ok p_1] (I r) := by
 unfold G_copies_Valid_1 at hG
 try (simp only [un2, un3, un4, un5, un6, un7, un8, Sum.elim_inl, Sum.elim_inr, List.length_map, KCopyL.n_Log] at hG; replace hG : _ = _ := hG)
 refine fi Tryz.func36 rfl rfl (mc KCopyL.mv (mc KCopyL.mv m0)) fun S0 w0 hT => ?_
 refine sq ?_; refine rg ?_; refine l1 ?_; refine nw 2 vp [I p_0.ID, .slice p_0.Log_A p_0.Log.length p_0.Log_c] 40 fun g_1 => ?_
 refine l1 ?_; refine nw 3 vp [I p_1.ID, .slice p_1.Log_A p_1.Log.length p_1.Log_c] 40 fun g_2 => ?_
 refine ra [] f0 [] ?_; refine tN ?_; refine sq ?_; replace hG := bind_some hG; obtain ⟨v_3, hy_3, hG⟩ := hG; replace hG := bind_some hG; obtain ⟨v_4, hy_4, hG⟩ := hG; replace hG := bind_some hG; obtain ⟨v_5, hy_5, hG⟩ := hG; refine qb ?_; refine qn 1 [(0, 2, 1, 0)] f0 [(5, .agg #[I p_0.ID, .slice p_0.Log_A p_0.Log.length p_0.Log_c])] ?_; refine qc 6 (z_copies_size F p_0 _ hy_3) hT ⟨(gi 2).a, trivial⟩ ?_; refine qn 1 [(0, 2, 0, 0)] f0 [(7, .agg #[I p_1.ID, .slice p_1.Log_A p_1.Log.length p_1.Log_c])] ?_; refine qc 8 (z_copies_size F p_1 _ hy_4) hT ⟨(gi 3).a, trivial⟩ ?_; refine qc 9 (z_cmp_Compare_int F v_3 v_4 _ hy_5) hT trivial ?_; refine qa [] f0 [(4, I v_5)] ?_; refine tN ?_; refine kR ?_; obtain rfl := Option.some.inj hG; exact rt []
def G_copies_wrong (F : Nat) (p_0 : KTx) : Option (Bool) :=
  Option.bind (ifB (decide (p_0.ID < 1))
      (some true)
      (ifB (decide (p_0.ID > 1000000))
        (some true)
        (ifB (decide (p_0.Ts < 1))
          (some true)
          (Option.bind (G_copies_isTime F p_0.Ts) (fun v_5 =>
          ifB (v_5)
            (ifB (decide (((p_0.Reads.length : Nat) : Int) > 8))
              (some true)
              (some (decide (((p_0.Writes.length : Nat) : Int) > 8))))
            (some true))))) : Option (Bool)) (fun (v_9 : Bool) => 
    ifB (v_9)
      (some true)
      (Option.bind (Option.bind (Option.bind (Option.bind (Option.bind (iter (σ := Int) (ρ := Unit ⊕ Int) (fun (v_24 : Int) => 
                  (ifB (decide (v_24 < ((p_0.Reads.length : Nat) : Int)))
                    (Option.bind (ixI p_0.Reads v_24) (fun v_27 =>
                    Option.bind (G_copies_wrong_1 F v_27) (fun v_30 =>
                    ifB (v_30)
                      (some (.inr (.inr v_24)))
                      (some (.inl (IntKind.i64.wrap (v_24 + 1)))))))
                    (some (.inr (.inl ()))) : Option (Int ⊕ (Unit ⊕ Int)))) F 0) (Sum.elim (fun (_ : Unit) => 
                some (.inl ())) (fun (v_32 : Int) => 
                some (.inr v_32))) : Option (Unit ⊕ Int)) (Sum.elim (fun (_ : Unit) => 
              some (-1)) (fun (v_34 : Int) => 
              some v_34)) : Option (Int)) (fun (v_35 : Int) => 
            some (decide (v_35 ≥ 0))) : Option (Bool)) (fun (v_61 : Bool) => 
          ifB (v_61)
            (some true)
            (Option.bind (Option.bind (Option.bind (Option.bind (iter (σ := Int) (ρ := Unit ⊕ Int) (fun (v_77 : Int) => 
                      (ifB (decide (v_77 < ((p_0.Writes.length : Nat) : Int)))
                        (Option.bind (ixI p_0.Writes v_77) (fun v_80 =>
                        Option.bind (G_copies_wrong_2 F v_80) (fun v_83 =>
                        ifB (v_83)
                          (some (.inr (.inr v_77)))
                          (some (.inl (IntKind.i64.wrap (v_77 + 1)))))))
                        (some (.inr (.inl ()))) : Option (Int ⊕ (Unit ⊕ Int)))) F 0) (Sum.elim (fun (_ : Unit) => 
                    some (.inl ())) (fun (v_85 : Int) => 
                    some (.inr v_85))) : Option (Unit ⊕ Int)) (Sum.elim (fun (_ : Unit) => 
                  some (-1)) (fun (v_87 : Int) => 
                  some v_87)) : Option (Int)) (fun (v_88 : Int) => 
                some (decide (v_88 ≥ 0))) : Option (Bool)) (fun (v_114 : Bool) => 
              some v_114))) : Option (Bool)) (fun (v_267 : Bool) => 
        ifB (v_267)
          (some true)
          (Option.bind (Option.bind (Option.bind (Option.bind (iter (σ := Int × Int) (ρ := Unit ⊕ Unit) (un2 fun (v_287 : Int) (v_288 : Int) => 
                    (ifB (decide (v_287 < ((p_0.Reads.length : Nat) : Int)))
                      (Option.bind (ixI p_0.Reads v_287) (fun v_291 =>
                      Option.bind (G_copies_wrong_3 F v_291) (fun v_295 =>
                      ifB (decide (v_295 ≤ v_288))
                        (some (.inr (.inr ())))
                        (Option.bind (G_copies_wrong_3 F v_291) (fun v_297 =>
                        some (.inl (IntKind.i64.wrap (v_287 + 1), v_297)))))))
                      (some (.inr (.inl ()))) : Option ((Int × Int) ⊕ (Unit ⊕ Unit)))) F (0, 0)) (Sum.elim (fun (_ : Unit) => 
                  some (.inl ())) (fun (_ : Unit) => 
                  some (.inr ()))) : Option (Unit ⊕ Unit)) (Sum.elim (fun (_ : Unit) => 
                some true) (fun (_ : Unit) => 
                some false)) : Option (Bool)) (fun (v_299 : Bool) => 
              ifB (v_299)
                (Option.bind (Option.bind (Option.bind (iter (σ := Int × Int) (ρ := Unit ⊕ Unit) (un2 fun (v_320 : Int) (v_321 : Int) => 
                        (ifB (decide (v_320 < ((p_0.Writes.length : Nat) : Int)))
                          (Option.bind (ixI p_0.Writes v_320) (fun v_324 =>
                          Option.bind (G_copies_wrong_4 F v_324) (fun v_328 =>
                          ifB (decide (v_328 ≤ v_321))
                            (some (.inr (.inr ())))
                            (Option.bind (G_copies_wrong_4 F v_324) (fun v_330 =>
                            some (.inl (IntKind.i64.wrap (v_320 + 1), v_330)))))))
                          (some (.inr (.inl ()))) : Option ((Int × Int) ⊕ (Unit ⊕ Unit)))) F (0, 0)) (Sum.elim (fun (_ : Unit) => 
                      some (.inl ())) (fun (_ : Unit) => 
                      some (.inr ()))) : Option (Unit ⊕ Unit)) (Sum.elim (fun (_ : Unit) => 
                    some true) (fun (_ : Unit) => 
                    some false)) : Option (Bool)) (fun (v_332 : Bool) => 
                  some (!v_332)))
                (some true)) : Option (Bool)) (fun (v_425 : Bool) => 
            some v_425)))))
set_option maxRecDepth 100000 in
set_option maxHeartbeats 16000000 in
theorem z_copies_wrong (F : Nat) (p_0 : KTxL) (r : Bool) (hG : G_copies_wrong F p_0.p = some r) :
  Cf Tryz.prog 42 [.agg #[I p_0.ID, I p_0.Ts, .slice p_0.Reads_A p_0.Reads.length p_0.Reads_c, .slice p_0.Writes_A p_0.Writes.length p_0.Writes_c]] [KTxL.ok p_0] (B r) := by
 unfold G_copies_wrong at hG
 try (simp only [un2, un3, un4, un5, un6, un7, un8, Sum.elim_inl, Sum.elim_inr, List.length_map, KCopyL.n_Log] at hG; replace hG : _ = _ := hG)
 refine fi Tryz.func42 rfl rfl (mc KTxL.mv m0) fun S0 w0 hT => ?_
 refine sq ?_; refine rg ?_; refine l1 ?_; refine nw 1 vp [I p_0.ID, I p_0.Ts, .slice p_0.Reads_A p_0.Reads.length p_0.Reads_c, .slice p_0.Writes_A p_0.Writes.length p_0.Writes_c] 47 fun g_1 => ?_
 refine ra [] f0 [] ?_; refine tN ?_; refine sq ?_; obtain ⟨o_8, hG, hG_8⟩ := bind_some hG; refine jn (fun K E a w => ∃ (v_9 : Bool), Js S0 w0 56 ([(35, B v_9)] ++ K) ([.dat (RowC p_0.Reads_A p_0.Reads_c KSeen.cells tr p_0.Reads), .dat (RowC p_0.Writes_A p_0.Writes_c KWrite.cells tr p_0.Writes)] ++ se E [0]) (v_9 = o_8) a w) ?_ ?_
 ·replace hG := ifB_cases hG; rcases hG with ⟨h_2, hG⟩ | ⟨h_2, hG⟩
  ·refine rg ?_; refine rn 4 [(1, 1, 0, 0)] f0 [(8, B (decide (p_0.ID < 1)))] ?_; refine sb 8 (bt h_2) ?_; refine ra [] f0 [(35, B true)] ?_; refine tN ?_; refine fm (RowC p_0.Reads_A p_0.Reads_c KSeen.cells tr p_0.Reads) (gm (KTxL.ok p_0) 1 fun _ _ h => h.f_Reads) ?_; refine fm (RowC p_0.Writes_A p_0.Writes_c KWrite.cells tr p_0.Writes) (gm (KTxL.ok p_0) 2 fun _ _ h => h.f_Writes) ?_; exact fun a w S hK hE => ⟨true, S, hK.wk, hE.sel [1, 0, 2], Option.some.inj hG⟩
  ·replace hG := ifB_cases hG; rcases hG with ⟨h_3, hG⟩ | ⟨h_3, hG⟩
   ·refine rg ?_; refine rn 4 [(1, 1, 0, 0)] f0 [(8, B (decide (p_0.ID < 1)))] ?_; refine sb 8 (bf h_2) ?_; refine rn 5 [(1, 1, 0, 0)] f0 [(13, B (decide (p_0.ID > 1000000)))] ?_; refine sb 13 (bt h_3) ?_; refine ra [] f0 [(35, B true)] ?_; refine tN ?_; refine fm (RowC p_0.Reads_A p_0.Reads_c KSeen.cells tr p_0.Reads) (gm (KTxL.ok p_0) 1 fun _ _ h => h.f_Reads) ?_; refine fm (RowC p_0.Writes_A p_0.Writes_c KWrite.cells tr p_0.Writes) (gm (KTxL.ok p_0) 2 fun _ _ h => h.f_Writes) ?_; exact fun a w S hK hE => ⟨true, S, hK.wk, hE.sel [1, 0, 2], Option.some.inj hG⟩
   ·replace hG := ifB_cases hG; rcases hG with ⟨h_4, hG⟩ | ⟨h_4, hG⟩
    ·refine rg ?_; refine rn 4 [(1, 1, 0, 0)] f0 [(8, B (decide (p_0.ID < 1)))] ?_; refine sb 8 (bf h_2) ?_; refine rn 5 [(1, 1, 0, 0)] f0 [(13, B (decide (p_0.ID > 1000000)))] ?_; refine sb 13 (bf h_3) ?_; refine rn 5 [(1, 1, 0, 1)] f0 [(18, B (decide (p_0.Ts < 1)))] ?_; refine sb 18 (bt h_4) ?_; refine ra [] f0 [(35, B true)] ?_; refine tN ?_; refine fm (RowC p_0.Reads_A p_0.Reads_c KSeen.cells tr p_0.Reads) (gm (KTxL.ok p_0) 1 fun _ _ h => h.f_Reads) ?_; refine fm (RowC p_0.Writes_A p_0.Writes_c KWrite.cells tr p_0.Writes) (gm (KTxL.ok p_0) 2 fun _ _ h => h.f_Writes) ?_; exact fun a w S hK hE => ⟨true, S, hK.wk, hE.sel [1, 0, 2], Option.some.inj hG⟩
    ·replace hG := bind_some hG; obtain ⟨v_5, hy_5, hG⟩ := hG; replace hG := ifB_cases hG; rcases hG with ⟨h_6, hG⟩ | ⟨h_6, hG⟩
     ·replace hG := ifB_cases hG; rcases hG with ⟨h_7, hG⟩ | ⟨h_7, hG⟩
      ·refine rg ?_; refine rn 4 [(1, 1, 0, 0)] f0 [(8, B (decide (p_0.ID < 1)))] ?_; refine sb 8 (bf h_2) ?_; refine rn 5 [(1, 1, 0, 0)] f0 [(13, B (decide (p_0.ID > 1000000)))] ?_; refine sb 13 (bf h_3) ?_; refine rn 5 [(1, 1, 0, 1)] f0 [(18, B (decide (p_0.Ts < 1)))] ?_; refine sb 18 (bf h_4) ?_; refine rn 2 [(1, 1, 0, 1)] f0 [(20, I p_0.Ts)] ?_; refine l1 ?_; refine cl 21 (z_copies_isTime F p_0.Ts _ hy_5) hT trivial ?_; refine rn 3 [] f0 [(24, B (!v_5))] ?_; refine sb 24 (nt h_6) ?_; refine rn 6 [(1, 1, 0, 2)] f0 [(30, B (decide (((p_0.Reads.length : Nat) : Int) > 8)))] ?_
       try simp only [List.length_map, KCopyL.n_Log] at h_7
       refine sb 30 (bt h_7) ?_; refine ra [] f0 [(35, B true)] ?_; refine tN ?_; refine fm (RowC p_0.Reads_A p_0.Reads_c KSeen.cells tr p_0.Reads) (gm (KTxL.ok p_0) 1 fun _ _ h => h.f_Reads) ?_; refine fm (RowC p_0.Writes_A p_0.Writes_c KWrite.cells tr p_0.Writes) (gm (KTxL.ok p_0) 2 fun _ _ h => h.f_Writes) ?_; exact fun a w S hK hE => ⟨true, S, hK.wk, hE.sel [1, 0, 2], Option.some.inj hG⟩
      ·refine rg ?_; refine rn 4 [(1, 1, 0, 0)] f0 [(8, B (decide (p_0.ID < 1)))] ?_; refine sb 8 (bf h_2) ?_; refine rn 5 [(1, 1, 0, 0)] f0 [(13, B (decide (p_0.ID > 1000000)))] ?_; refine sb 13 (bf h_3) ?_; refine rn 5 [(1, 1, 0, 1)] f0 [(18, B (decide (p_0.Ts < 1)))] ?_; refine sb 18 (bf h_4) ?_; refine rn 2 [(1, 1, 0, 1)] f0 [(20, I p_0.Ts)] ?_; refine l1 ?_; refine cl 21 (z_copies_isTime F p_0.Ts _ hy_5) hT trivial ?_; refine rn 3 [] f0 [(24, B (!v_5))] ?_; refine sb 24 (nt h_6) ?_; refine rn 6 [(1, 1, 0, 2)] f0 [(30, B (decide (((p_0.Reads.length : Nat) : Int) > 8)))] ?_
       try simp only [List.length_map, KCopyL.n_Log] at h_7
       refine sb 30 (bf h_7) ?_; refine ra [(1, 1, 0, 3)] f0 [(35, B (decide (((p_0.Writes.length : Nat) : Int) > 8)))] ?_; refine tN ?_; refine fm (RowC p_0.Reads_A p_0.Reads_c KSeen.cells tr p_0.Reads) (gm (KTxL.ok p_0) 1 fun _ _ h => h.f_Reads) ?_; refine fm (RowC p_0.Writes_A p_0.Writes_c KWrite.cells tr p_0.Writes) (gm (KTxL.ok p_0) 2 fun _ _ h => h.f_Writes) ?_; exact fun a w S hK hE => ⟨decide (((p_0.Writes.length : Nat) : Int) > 8), S, hK.wk, hE.sel [1, 0, 2], Option.some.inj hG⟩
     ·refine rg ?_; refine rn 4 [(1, 1, 0, 0)] f0 [(8, B (decide (p_0.ID < 1)))] ?_; refine sb 8 (bf h_2) ?_; refine rn 5 [(1, 1, 0, 0)] f0 [(13, B (decide (p_0.ID > 1000000)))] ?_; refine sb 13 (bf h_3) ?_; refine rn 5 [(1, 1, 0, 1)] f0 [(18, B (decide (p_0.Ts < 1)))] ?_; refine sb 18 (bf h_4) ?_; refine rn 2 [(1, 1, 0, 1)] f0 [(20, I p_0.Ts)] ?_; refine l1 ?_; refine cl 21 (z_copies_isTime F p_0.Ts _ hy_5) hT trivial ?_; refine rn 3 [] f0 [(24, B (!v_5))] ?_; refine sb 24 (nf h_6) ?_; refine ra [] f0 [(35, B true)] ?_; refine tN ?_; refine fm (RowC p_0.Reads_A p_0.Reads_c KSeen.cells tr p_0.Reads) (gm (KTxL.ok p_0) 1 fun _ _ h => h.f_Reads) ?_; refine fm (RowC p_0.Writes_A p_0.Writes_c KWrite.cells tr p_0.Writes) (gm (KTxL.ok p_0) 2 fun _ _ h => h.f_Writes) ?_; exact fun a w S hK hE => ⟨true, S, hK.wk, hE.sel [1, 0, 2], Option.some.inj hG⟩
 ·rintro a w ⟨v_9, hJ⟩; refine hJ.go fun ho_ => ?_
  clear hJ; subst ho_; replace hG := hG_8
  try (simp only [un2, un3, un4, un5, un6, un7, un8, Sum.elim_inl, Sum.elim_inr, List.length_map, KCopyL.n_Log] at hG; replace hG : _ = _ := hG)
  rcases ifB_cases hG with ⟨h_10, hG⟩ | ⟨h_10, hG⟩
  ·refine sb 35 (bt h_10) ?_; refine ct ?_; refine sq ?_; refine rg ?_; refine ra [] f0 [(2, B true)] ?_; refine tN ?_; refine kR ?_; refine tR ?_; obtain rfl := Option.some.inj hG; exact rt []
  ·refine sb 35 (bf h_10) ?_; refine cf ?_; refine kS ?_; refine tN ?_; refine sq ?_; refine rg ?_; refine ra [] f0 [(3, .func (.func 68) #[] #[])] ?_; refine tN ?_; refine sq ?_; refine rg ?_; refine ra [] f0 [(4, .func (.func 69) #[] #[])] ?_; refine tN ?_; refine sq ?_; obtain ⟨o_266, hG, hG_266⟩ := bind_some hG; refine jn (fun K E a w => ∃ (v_267 : Bool), Js S0 w0 56 ([(45, B v_267)] ++ K) (se E [0, 1, 2]) (v_267 = o_266) a w) ?_ ?_
   ·replace hG := bind_some hG; obtain ⟨v_61o, hy_62, hG⟩ := hG; replace hG := ifB_cases hG; rcases hG with ⟨h_63, hG⟩ | ⟨h_63, hG⟩
    ·refine rg ?_; refine rn 3 [(1, 1, 2, 2)] f0 [(37, .slice p_0.Reads_A p_0.Reads.length p_0.Reads_c), (38, .func (.func 68) #[] #[])] ?_; refine l1 ?_; refine ci 39 (args := [.slice p_0.Reads_A p_0.Reads.length p_0.Reads_c, .func (.func 68) #[] #[]]) (fun E e w => ∃ (v_61 : Bool), Rs S0 w0 (B v_61) (se E [0, 1, 2]) (v_61 = v_61o) e w) Tryz.func70 rfl rfl ?_ ?_
     ·replace hG := hy_62
      try (simp only [un2, un3, un4, un5, un6, un7, un8, Sum.elim_inl, Sum.elim_inr, List.length_map, KCopyL.n_Log] at hG; replace hG : _ = _ := hG)
      refine sq ?_; refine rg ?_; refine ra [] f0 [] ?_; refine tN ?_; refine sq ?_; replace hG := bind_some hG; obtain ⟨v_140o, hy_141, hG⟩ := hG; refine rg ?_; refine rn 2 [] f0 [(5, .slice p_0.Reads_A p_0.Reads.length p_0.Reads_c), (6, .func (.func 68) #[] #[])] ?_; refine l1 ?_; refine ci 7 (args := [.slice p_0.Reads_A p_0.Reads.length p_0.Reads_c, .func (.func 68) #[] #[]]) (fun E e w => ∃ (v_140 : Int), Rs S0 w0 (I v_140) (se E [0, 1, 2]) (v_140 = v_140o) e w) Tryz.func95 rfl rfl ?_ ?_
      ·replace hG := hy_141
       try (simp only [un2, un3, un4, un5, un6, un7, un8, Sum.elim_inl, Sum.elim_inr, List.length_map, KCopyL.n_Log] at hG; replace hG : _ = _ := hG)
       refine sq ?_; refine rg ?_; refine ra [] f0 [] ?_; refine tN ?_; obtain ⟨o_164, hG, hG_164⟩ := bind_some hG; refine jn (fun K E a w => Js S0 w0 19 (K) (se E [0, 1, 2]) (.inl () = o_164) a w) ?_ ?_
       ·refine sq ?_; refine rg ?_; refine ra [] f0 [(7, I ((p_0.Reads.length : Nat) : Int)), (8, I 0)] ?_; refine tN ?_; refine bk ?_; obtain ⟨e_156, hL, hG_156⟩ := bind_some hG; clear hG; obtain ⟨stp_156, hs_156, hL⟩ := iter_gen hL; refine lp (fun K E n_ a w => ∃ (v_155 : Int), Js S0 w0 19 ([(8, I v_155)] ++ K) (se E [0, 1, 2]) (iter stp_156 n_ v_155 = some e_156) a w) F ?_ ?_
        ·exact fun a w S hK hE => ⟨0, S, hK.wk, hE.sel [0, 1, 2], hL⟩
        ·clear hL; rintro n_156 a w ⟨v_155, hJ⟩; refine hJ.go fun hL => ?_
         clear hJ; obtain ⟨m_156, o_156, rfl, hG, hO1_156, hO2_156⟩ := iter_step hL; clear hL; rw [hs_156] at hG
         try (simp only [un2, un3, un4, un5, un6, un7, un8, Sum.elim_inl, Sum.elim_inr, List.length_map, KCopyL.n_Log] at hG; replace hG : _ = _ := hG)
         refine sq ?_; refine rg ?_; refine ra [] f0 [(9, B (decide (v_155 < ((p_0.Reads.length : Nat) : Int))))] ?_; refine tN ?_; refine sq ?_; rcases ifB_cases hG with ⟨h_157, hG⟩ | ⟨h_157, hG⟩
         ·try simp only [List.length_map, KCopyL.n_Log] at h_157
          refine sb 9 (bt h_157) ?_; refine ct ?_; refine kS ?_; refine tN ?_; refine sq ?_; refine bk ?_; refine sq ?_; refine rg ?_; refine ra [] f0 [(5, I v_155)] ?_; refine tN ?_; refine sq ?_; replace hG := bind_some hG; obtain ⟨v_158, hy_158, hG⟩ := hG; replace hG := bind_some hG; obtain ⟨v_161, hy_161, hG⟩ := hG; refine rg ?_; refine fx inf44 (gd' (RowC p_0.Reads_A p_0.Reads_c KSeen.cells tr p_0.Reads) 0) hy_158 fun b_159 o_160 hi_158 => ?_
          refine rn 5 [(3, 0, 0, 0), (0, 2, 0, 0)] (fc (hi_158 .i64) f0) [(11, .func (.func 68) #[] #[]), (15, .agg #[I v_158.Key, I v_158.Ts])] ?_; refine l1 ?_; refine cl 16 (z_copies_wrong_1 F v_158 _ hy_161) hT trivial ?_; refine nl ?_; refine tN ?_; rcases ifB_cases hG with ⟨h_162, hG⟩ | ⟨h_162, hG⟩
          ·refine sb 16 (bt h_162) ?_; refine ct ?_; refine sq ?_; refine rg ?_; refine ra [] f0 [(4, I v_155)] ?_; refine tN ?_; refine kR ?_; refine hR ?_; refine tR ?_; refine tR ?_; have he_ := hO2_156 _ (Option.some.inj hG).symm; subst he_; replace hG := hG_156
           try (simp only [un2, un3, un4, un5, un6, un7, un8, Sum.elim_inl, Sum.elim_inr, List.length_map, KCopyL.n_Log] at hG; replace hG : _ = _ := hG)
           refine hR ?_; refine tR ?_; obtain rfl := Option.some.inj hG; replace hG := hG_164
           try (simp only [un2, un3, un4, un5, un6, un7, un8, Sum.elim_inl, Sum.elim_inr, List.length_map, KCopyL.n_Log] at hG; replace hG : _ = _ := hG)
           refine ri [] (I v_155) ?_; exact fun a w S hK hE => ⟨v_155, rfl, ⟨S, hE.sel [1, 2, 3]⟩, Option.some.inj hG⟩
          ·refine sb 16 (bf h_162) ?_; refine cf ?_; refine kS ?_; refine hN ?_; refine tN ?_; refine rg ?_; refine ra [] f0 [(8, I (IntKind.i64.wrap (v_155 + 1)))] ?_; refine tN ?_; exact fun a w S hK hE => ⟨m_156, ⟨IntKind.i64.wrap (v_155 + 1), S, hK.wk, hE.sel [1, 2, 3], hO1_156 _ (Option.some.inj hG).symm⟩, Nat.lt_succ_self _⟩
         ·try simp only [List.length_map, KCopyL.n_Log] at h_157
          refine sb 9 (bf h_157) ?_; refine cf ?_; refine kX ?_; refine tX ?_; refine tX ?_; have he_ := hO2_156 _ (Option.some.inj hG).symm; subst he_; replace hG := hG_156
          try (simp only [un2, un3, un4, un5, un6, un7, un8, Sum.elim_inl, Sum.elim_inr, List.length_map, KCopyL.n_Log] at hG; replace hG : _ = _ := hG)
          refine hH ?_; refine tN ?_; exact fun a w S hK hE => ⟨S, hK.wk, hE.sel [0, 1, 2], Option.some.inj hG⟩
       ·rintro a w hJ; refine hJ.go fun ho_ => ?_
        clear hJ; subst ho_; replace hG := hG_164
        try (simp only [un2, un3, un4, un5, un6, un7, un8, Sum.elim_inl, Sum.elim_inr, List.length_map, KCopyL.n_Log] at hG; replace hG : _ = _ := hG)
        refine sq ?_; refine rg ?_; refine ra [] f0 [(4, I (-1))] ?_; refine tN ?_; refine kR ?_; refine ri [] (I (-1)) ?_; exact fun a w S hK hE => ⟨(-1), rfl, ⟨S, hE.sel [0, 1, 2]⟩, Option.some.inj hG⟩
      ·rintro e w ⟨v_140, hJ⟩; refine hJ.go fun ho_ => ?_
       clear hJ; subst ho_
       try (simp only [un2, un3, un4, un5, un6, un7, un8, Sum.elim_inl, Sum.elim_inr, List.length_map, KCopyL.n_Log] at hG; replace hG : _ = _ := hG)
       refine ra [] f0 [(4, B (decide (v_140 ≥ 0)))] ?_; refine tN ?_; refine kR ?_; refine ri [] (B (decide (v_140 ≥ 0))) ?_; exact fun a w S hK hE => ⟨decide (v_140 ≥ 0), rfl, ⟨S, hE.sel [0, 1, 2]⟩, Option.some.inj hG⟩
     ·rintro e w ⟨v_61, hJ⟩; refine hJ.go fun ho_ => ?_
      clear hJ; subst ho_
      try (simp only [un2, un3, un4, un5, un6, un7, un8, Sum.elim_inl, Sum.elim_inr, List.length_map, KCopyL.n_Log] at hG; replace hG : _ = _ := hG)
      refine rn 1 [] f0 [(40, B v_61)] ?_; refine sb 40 (bt h_63) ?_; refine ra [] f0 [(45, B true)] ?_; refine tN ?_; exact fun a w S hK hE => ⟨true, S, hK.wk, hE.sel [0, 1, 2], Option.some.inj hG⟩
    ·replace hG := bind_some hG; obtain ⟨v_114o, hy_115, hG⟩ := hG; refine rg ?_; refine rn 3 [(1, 1, 2, 2)] f0 [(37, .slice p_0.Reads_A p_0.Reads.length p_0.Reads_c), (38, .func (.func 68) #[] #[])] ?_; refine l1 ?_; refine ci 39 (args := [.slice p_0.Reads_A p_0.Reads.length p_0.Reads_c, .func (.func 68) #[] #[]]) (fun E e w => ∃ (v_61 : Bool), Rs S0 w0 (B v_61) (se E [0, 1, 2]) (v_61 = v_61o) e w) Tryz.func70 rfl rfl ?_ ?_
     ·replace hG := hy_62
      try (simp only [un2, un3, un4, un5, un6, un7, un8, Sum.elim_inl, Sum.elim_inr, List.length_map, KCopyL.n_Log] at hG; replace hG : _ = _ := hG)
      refine sq ?_; refine rg ?_; refine ra [] f0 [] ?_; refine tN ?_; refine sq ?_; replace hG := bind_some hG; obtain ⟨v_190o, hy_191, hG⟩ := hG; refine rg ?_; refine rn 2 [] f0 [(5, .slice p_0.Reads_A p_0.Reads.length p_0.Reads_c), (6, .func (.func 68) #[] #[])] ?_; refine l1 ?_; refine ci 7 (args := [.slice p_0.Reads_A p_0.Reads.length p_0.Reads_c, .func (.func 68) #[] #[]]) (fun E e w => ∃ (v_190 : Int), Rs S0 w0 (I v_190) (se E [0, 1, 2]) (v_190 = v_190o) e w) Tryz.func95 rfl rfl ?_ ?_
      ·replace hG := hy_191
       try (simp only [un2, un3, un4, un5, un6, un7, un8, Sum.elim_inl, Sum.elim_inr, List.length_map, KCopyL.n_Log] at hG; replace hG : _ = _ := hG)
       refine sq ?_; refine rg ?_; refine ra [] f0 [] ?_; refine tN ?_; obtain ⟨o_214, hG, hG_214⟩ := bind_some hG; refine jn (fun K E a w => Js S0 w0 19 (K) (se E [0, 1, 2]) (.inl () = o_214) a w) ?_ ?_
       ·refine sq ?_; refine rg ?_; refine ra [] f0 [(7, I ((p_0.Reads.length : Nat) : Int)), (8, I 0)] ?_; refine tN ?_; refine bk ?_; obtain ⟨e_206, hL, hG_206⟩ := bind_some hG; clear hG; obtain ⟨stp_206, hs_206, hL⟩ := iter_gen hL; refine lp (fun K E n_ a w => ∃ (v_205 : Int), Js S0 w0 19 ([(8, I v_205)] ++ K) (se E [0, 1, 2]) (iter stp_206 n_ v_205 = some e_206) a w) F ?_ ?_
        ·exact fun a w S hK hE => ⟨0, S, hK.wk, hE.sel [0, 1, 2], hL⟩
        ·clear hL; rintro n_206 a w ⟨v_205, hJ⟩; refine hJ.go fun hL => ?_
         clear hJ; obtain ⟨m_206, o_206, rfl, hG, hO1_206, hO2_206⟩ := iter_step hL; clear hL; rw [hs_206] at hG
         try (simp only [un2, un3, un4, un5, un6, un7, un8, Sum.elim_inl, Sum.elim_inr, List.length_map, KCopyL.n_Log] at hG; replace hG : _ = _ := hG)
         refine sq ?_; refine rg ?_; refine ra [] f0 [(9, B (decide (v_205 < ((p_0.Reads.length : Nat) : Int))))] ?_; refine tN ?_; refine sq ?_; rcases ifB_cases hG with ⟨h_207, hG⟩ | ⟨h_207, hG⟩
         ·try simp only [List.length_map, KCopyL.n_Log] at h_207
          refine sb 9 (bt h_207) ?_; refine ct ?_; refine kS ?_; refine tN ?_; refine sq ?_; refine bk ?_; refine sq ?_; refine rg ?_; refine ra [] f0 [(5, I v_205)] ?_; refine tN ?_; refine sq ?_; replace hG := bind_some hG; obtain ⟨v_208, hy_208, hG⟩ := hG; replace hG := bind_some hG; obtain ⟨v_211, hy_211, hG⟩ := hG; refine rg ?_; refine fx inf44 (gd' (RowC p_0.Reads_A p_0.Reads_c KSeen.cells tr p_0.Reads) 0) hy_208 fun b_209 o_210 hi_208 => ?_
          refine rn 5 [(3, 0, 0, 0), (0, 2, 0, 0)] (fc (hi_208 .i64) f0) [(11, .func (.func 68) #[] #[]), (15, .agg #[I v_208.Key, I v_208.Ts])] ?_; refine l1 ?_; refine cl 16 (z_copies_wrong_1 F v_208 _ hy_211) hT trivial ?_; refine nl ?_; refine tN ?_; rcases ifB_cases hG with ⟨h_212, hG⟩ | ⟨h_212, hG⟩
          ·refine sb 16 (bt h_212) ?_; refine ct ?_; refine sq ?_; refine rg ?_; refine ra [] f0 [(4, I v_205)] ?_; refine tN ?_; refine kR ?_; refine hR ?_; refine tR ?_; refine tR ?_; have he_ := hO2_206 _ (Option.some.inj hG).symm; subst he_; replace hG := hG_206
           try (simp only [un2, un3, un4, un5, un6, un7, un8, Sum.elim_inl, Sum.elim_inr, List.length_map, KCopyL.n_Log] at hG; replace hG : _ = _ := hG)
           refine hR ?_; refine tR ?_; obtain rfl := Option.some.inj hG; replace hG := hG_214
           try (simp only [un2, un3, un4, un5, un6, un7, un8, Sum.elim_inl, Sum.elim_inr, List.length_map, KCopyL.n_Log] at hG; replace hG : _ = _ := hG)
           refine ri [] (I v_205) ?_; exact fun a w S hK hE => ⟨v_205, rfl, ⟨S, hE.sel [1, 2, 3]⟩, Option.some.inj hG⟩
          ·refine sb 16 (bf h_212) ?_; refine cf ?_; refine kS ?_; refine hN ?_; refine tN ?_; refine rg ?_; refine ra [] f0 [(8, I (IntKind.i64.wrap (v_205 + 1)))] ?_; refine tN ?_; exact fun a w S hK hE => ⟨m_206, ⟨IntKind.i64.wrap (v_205 + 1), S, hK.wk, hE.sel [1, 2, 3], hO1_206 _ (Option.some.inj hG).symm⟩, Nat.lt_succ_self _⟩
         ·try simp only [List.length_map, KCopyL.n_Log] at h_207
          refine sb 9 (bf h_207) ?_; refine cf ?_; refine kX ?_; refine tX ?_; refine tX ?_; have he_ := hO2_206 _ (Option.some.inj hG).symm; subst he_; replace hG := hG_206
          try (simp only [un2, un3, un4, un5, un6, un7, un8, Sum.elim_inl, Sum.elim_inr, List.length_map, KCopyL.n_Log] at hG; replace hG : _ = _ := hG)
          refine hH ?_; refine tN ?_; exact fun a w S hK hE => ⟨S, hK.wk, hE.sel [0, 1, 2], Option.some.inj hG⟩
       ·rintro a w hJ; refine hJ.go fun ho_ => ?_
        clear hJ; subst ho_; replace hG := hG_214
        try (simp only [un2, un3, un4, un5, un6, un7, un8, Sum.elim_inl, Sum.elim_inr, List.length_map, KCopyL.n_Log] at hG; replace hG : _ = _ := hG)
        refine sq ?_; refine rg ?_; refine ra [] f0 [(4, I (-1))] ?_; refine tN ?_; refine kR ?_; refine ri [] (I (-1)) ?_; exact fun a w S hK hE => ⟨(-1), rfl, ⟨S, hE.sel [0, 1, 2]⟩, Option.some.inj hG⟩
      ·rintro e w ⟨v_190, hJ⟩; refine hJ.go fun ho_ => ?_
       clear hJ; subst ho_
       try (simp only [un2, un3, un4, un5, un6, un7, un8, Sum.elim_inl, Sum.elim_inr, List.length_map, KCopyL.n_Log] at hG; replace hG : _ = _ := hG)
       refine ra [] f0 [(4, B (decide (v_190 ≥ 0)))] ?_; refine tN ?_; refine kR ?_; refine ri [] (B (decide (v_190 ≥ 0))) ?_; exact fun a w S hK hE => ⟨decide (v_190 ≥ 0), rfl, ⟨S, hE.sel [0, 1, 2]⟩, Option.some.inj hG⟩
     ·rintro e w ⟨v_61, hJ⟩; refine hJ.go fun ho_ => ?_
      clear hJ; subst ho_
      try (simp only [un2, un3, un4, un5, un6, un7, un8, Sum.elim_inl, Sum.elim_inr, List.length_map, KCopyL.n_Log] at hG; replace hG : _ = _ := hG)
      refine rn 1 [] f0 [(40, B v_61)] ?_; refine sb 40 (bf h_63) ?_; refine rn 3 [(1, 1, 2, 3)] f0 [(42, .slice p_0.Writes_A p_0.Writes.length p_0.Writes_c), (43, .func (.func 69) #[] #[])] ?_; refine l1 ?_; refine ci 44 (args := [.slice p_0.Writes_A p_0.Writes.length p_0.Writes_c, .func (.func 69) #[] #[]]) (fun E e w => ∃ (v_114 : Bool), Rs S0 w0 (B v_114) (se E [0, 1, 2]) (v_114 = v_114o) e w) Tryz.func71 rfl rfl ?_ ?_
      ·replace hG := hy_115
       try (simp only [un2, un3, un4, un5, un6, un7, un8, Sum.elim_inl, Sum.elim_inr, List.length_map, KCopyL.n_Log] at hG; replace hG : _ = _ := hG)
       refine sq ?_; refine rg ?_; refine ra [] f0 [] ?_; refine tN ?_; refine sq ?_; replace hG := bind_some hG; obtain ⟨v_240o, hy_241, hG⟩ := hG; refine rg ?_; refine rn 2 [] f0 [(5, .slice p_0.Writes_A p_0.Writes.length p_0.Writes_c), (6, .func (.func 69) #[] #[])] ?_; refine l1 ?_; refine ci 7 (args := [.slice p_0.Writes_A p_0.Writes.length p_0.Writes_c, .func (.func 69) #[] #[]]) (fun E e w => ∃ (v_240 : Int), Rs S0 w0 (I v_240) (se E [0, 1, 2]) (v_240 = v_240o) e w) Tryz.func96 rfl rfl ?_ ?_
       ·replace hG := hy_241
        try (simp only [un2, un3, un4, un5, un6, un7, un8, Sum.elim_inl, Sum.elim_inr, List.length_map, KCopyL.n_Log] at hG; replace hG : _ = _ := hG)
        refine sq ?_; refine rg ?_; refine ra [] f0 [] ?_; refine tN ?_; obtain ⟨o_264, hG, hG_264⟩ := bind_some hG; refine jn (fun K E a w => Js S0 w0 19 (K) (se E [0, 1, 2]) (.inl () = o_264) a w) ?_ ?_
        ·refine sq ?_; refine rg ?_; refine ra [] f0 [(7, I ((p_0.Writes.length : Nat) : Int)), (8, I 0)] ?_; refine tN ?_; refine bk ?_; obtain ⟨e_256, hL, hG_256⟩ := bind_some hG; clear hG; obtain ⟨stp_256, hs_256, hL⟩ := iter_gen hL; refine lp (fun K E n_ a w => ∃ (v_255 : Int), Js S0 w0 19 ([(8, I v_255)] ++ K) (se E [0, 1, 2]) (iter stp_256 n_ v_255 = some e_256) a w) F ?_ ?_
         ·exact fun a w S hK hE => ⟨0, S, hK.wk, hE.sel [0, 1, 2], hL⟩
         ·clear hL; rintro n_256 a w ⟨v_255, hJ⟩; refine hJ.go fun hL => ?_
          clear hJ; obtain ⟨m_256, o_256, rfl, hG, hO1_256, hO2_256⟩ := iter_step hL; clear hL; rw [hs_256] at hG
          try (simp only [un2, un3, un4, un5, un6, un7, un8, Sum.elim_inl, Sum.elim_inr, List.length_map, KCopyL.n_Log] at hG; replace hG : _ = _ := hG)
          refine sq ?_; refine rg ?_; refine ra [] f0 [(9, B (decide (v_255 < ((p_0.Writes.length : Nat) : Int))))] ?_; refine tN ?_; refine sq ?_; rcases ifB_cases hG with ⟨h_257, hG⟩ | ⟨h_257, hG⟩
          ·try simp only [List.length_map, KCopyL.n_Log] at h_257
           refine sb 9 (bt h_257) ?_; refine ct ?_; refine kS ?_; refine tN ?_; refine sq ?_; refine bk ?_; refine sq ?_; refine rg ?_; refine ra [] f0 [(5, I v_255)] ?_; refine tN ?_; refine sq ?_; replace hG := bind_some hG; obtain ⟨v_258, hy_258, hG⟩ := hG; replace hG := bind_some hG; obtain ⟨v_261, hy_261, hG⟩ := hG; refine rg ?_; refine fx inf45 (gd' (RowC p_0.Writes_A p_0.Writes_c KWrite.cells tr p_0.Writes) 1) hy_258 fun b_259 o_260 hi_258 => ?_
           refine rn 5 [(3, 0, 0, 0), (0, 3, 0, 0)] (fc (hi_258 .i64) f0) [(11, .func (.func 69) #[] #[]), (15, .agg #[I v_258.Key, I v_258.Value, B v_258.Gone])] ?_; refine l1 ?_; refine cl 16 (z_copies_wrong_2 F v_258 _ hy_261) hT trivial ?_; refine nl ?_; refine tN ?_; rcases ifB_cases hG with ⟨h_262, hG⟩ | ⟨h_262, hG⟩
           ·refine sb 16 (bt h_262) ?_; refine ct ?_; refine sq ?_; refine rg ?_; refine ra [] f0 [(4, I v_255)] ?_; refine tN ?_; refine kR ?_; refine hR ?_; refine tR ?_; refine tR ?_; have he_ := hO2_256 _ (Option.some.inj hG).symm; subst he_; replace hG := hG_256
            try (simp only [un2, un3, un4, un5, un6, un7, un8, Sum.elim_inl, Sum.elim_inr, List.length_map, KCopyL.n_Log] at hG; replace hG : _ = _ := hG)
            refine hR ?_; refine tR ?_; obtain rfl := Option.some.inj hG; replace hG := hG_264
            try (simp only [un2, un3, un4, un5, un6, un7, un8, Sum.elim_inl, Sum.elim_inr, List.length_map, KCopyL.n_Log] at hG; replace hG : _ = _ := hG)
            refine ri [] (I v_255) ?_; exact fun a w S hK hE => ⟨v_255, rfl, ⟨S, hE.sel [1, 2, 3]⟩, Option.some.inj hG⟩
           ·refine sb 16 (bf h_262) ?_; refine cf ?_; refine kS ?_; refine hN ?_; refine tN ?_; refine rg ?_; refine ra [] f0 [(8, I (IntKind.i64.wrap (v_255 + 1)))] ?_; refine tN ?_; exact fun a w S hK hE => ⟨m_256, ⟨IntKind.i64.wrap (v_255 + 1), S, hK.wk, hE.sel [1, 2, 3], hO1_256 _ (Option.some.inj hG).symm⟩, Nat.lt_succ_self _⟩
          ·try simp only [List.length_map, KCopyL.n_Log] at h_257
           refine sb 9 (bf h_257) ?_; refine cf ?_; refine kX ?_; refine tX ?_; refine tX ?_; have he_ := hO2_256 _ (Option.some.inj hG).symm; subst he_; replace hG := hG_256
           try (simp only [un2, un3, un4, un5, un6, un7, un8, Sum.elim_inl, Sum.elim_inr, List.length_map, KCopyL.n_Log] at hG; replace hG : _ = _ := hG)
           refine hH ?_; refine tN ?_; exact fun a w S hK hE => ⟨S, hK.wk, hE.sel [0, 1, 2], Option.some.inj hG⟩
        ·rintro a w hJ; refine hJ.go fun ho_ => ?_
         clear hJ; subst ho_; replace hG := hG_264
         try (simp only [un2, un3, un4, un5, un6, un7, un8, Sum.elim_inl, Sum.elim_inr, List.length_map, KCopyL.n_Log] at hG; replace hG : _ = _ := hG)
         refine sq ?_; refine rg ?_; refine ra [] f0 [(4, I (-1))] ?_; refine tN ?_; refine kR ?_; refine ri [] (I (-1)) ?_; exact fun a w S hK hE => ⟨(-1), rfl, ⟨S, hE.sel [0, 1, 2]⟩, Option.some.inj hG⟩
       ·rintro e w ⟨v_240, hJ⟩; refine hJ.go fun ho_ => ?_
        clear hJ; subst ho_
        try (simp only [un2, un3, un4, un5, un6, un7, un8, Sum.elim_inl, Sum.elim_inr, List.length_map, KCopyL.n_Log] at hG; replace hG : _ = _ := hG)
        refine ra [] f0 [(4, B (decide (v_240 ≥ 0)))] ?_; refine tN ?_; refine kR ?_; refine ri [] (B (decide (v_240 ≥ 0))) ?_; exact fun a w S hK hE => ⟨decide (v_240 ≥ 0), rfl, ⟨S, hE.sel [0, 1, 2]⟩, Option.some.inj hG⟩
      ·rintro e w ⟨v_114, hJ⟩; refine hJ.go fun ho_ => ?_
       clear hJ; subst ho_
       try (simp only [un2, un3, un4, un5, un6, un7, un8, Sum.elim_inl, Sum.elim_inr, List.length_map, KCopyL.n_Log] at hG; replace hG : _ = _ := hG)
       refine ra [] f0 [(45, B v_114)] ?_; refine tN ?_; exact fun a w S hK hE => ⟨v_114, S, hK.wk, hE.sel [0, 1, 2], Option.some.inj hG⟩
   ·rintro a w ⟨v_267, hJ⟩; refine hJ.go fun ho_ => ?_
    clear hJ; subst ho_; replace hG := hG_266
    try (simp only [un2, un3, un4, un5, un6, un7, un8, Sum.elim_inl, Sum.elim_inr, List.length_map, KCopyL.n_Log] at hG; replace hG : _ = _ := hG)
    rcases ifB_cases hG with ⟨h_268, hG⟩ | ⟨h_268, hG⟩
    ·refine sb 45 (bt h_268) ?_; refine ct ?_; refine sq ?_; refine rg ?_; refine ra [] f0 [(2, B true)] ?_; refine tN ?_; refine kR ?_; refine tR ?_; obtain rfl := Option.some.inj hG; exact rt []
    ·refine sb 45 (bf h_268) ?_; refine cf ?_; refine kS ?_; refine tN ?_; obtain ⟨o_424, hG, hG_424⟩ := bind_some hG; refine jn (fun K E a w => ∃ (v_425 : Bool), Js S0 w0 56 ([(2, B v_425)] ++ K) (se E []) (v_425 = o_424) a w) ?_ ?_
     ·replace hG := bind_some hG; obtain ⟨v_299o, hy_300, hG⟩ := hG; replace hG := ifB_cases hG; rcases hG with ⟨h_301, hG⟩ | ⟨h_301, hG⟩
      ·replace hG := bind_some hG; obtain ⟨v_332o, hy_333, hG⟩ := hG; refine rg ?_; refine rn 2 [(1, 1, 2, 2)] f0 [(47, .slice p_0.Reads_A p_0.Reads.length p_0.Reads_c)] ?_; refine l1 ?_; refine ci 48 (args := [.slice p_0.Reads_A p_0.Reads.length p_0.Reads_c, .func (.func 73) #[] #[]]) (fun E e w => ∃ (v_299 : Bool), Rs S0 w0 (B v_299) (se E [0, 1, 2]) (v_299 = v_299o) e w) Tryz.func72 rfl rfl ?_ ?_
       ·replace hG := hy_300
        try (simp only [un2, un3, un4, un5, un6, un7, un8, Sum.elim_inl, Sum.elim_inr, List.length_map, KCopyL.n_Log] at hG; replace hG : _ = _ := hG)
        refine sq ?_; refine rg ?_; refine ra [] f0 [] ?_; refine tN ?_; refine sq ?_; refine rg ?_; refine ra [] f0 [(5, I 0)] ?_; refine tN ?_; obtain ⟨o_363, hG, hG_363⟩ := bind_some hG; refine jn (fun K E a w => Js S0 w0 23 (dk [5] K) (se E [0, 1, 2]) (.inl () = o_363) a w) ?_ ?_
        ·refine sq ?_; refine rg ?_; refine ra [] f0 [(8, .slice p_0.Reads_A p_0.Reads.length p_0.Reads_c), (9, I ((p_0.Reads.length : Nat) : Int)), (10, I 0)] ?_; refine tN ?_; refine bk ?_; obtain ⟨e_354, hL, hG_354⟩ := bind_some hG; clear hG; obtain ⟨stp_354, hs_354, hL⟩ := iter_gen hL; refine lp (fun K E n_ a w => ∃ (v_352 : Int), ∃ (v_353 : Int), Js S0 w0 23 ([(5, I v_353), (10, I v_352)] ++ K) (se E [0, 1, 2]) (iter stp_354 n_ (v_352, v_353) = some e_354) a w) F ?_ ?_
         ·exact fun a w S hK hE => ⟨0, 0, S, hK.wk, hE.sel [0, 1, 2], hL⟩
         ·clear hL; rintro n_354 a w ⟨v_352, v_353, hJ⟩; refine hJ.go fun hL => ?_
          clear hJ; obtain ⟨m_354, o_354, rfl, hG, hO1_354, hO2_354⟩ := iter_step hL; clear hL; rw [hs_354] at hG
          try (simp only [un2, un3, un4, un5, un6, un7, un8, Sum.elim_inl, Sum.elim_inr, List.length_map, KCopyL.n_Log] at hG; replace hG : _ = _ := hG)
          refine sq ?_; refine rg ?_; refine ra [] f0 [(11, B (decide (v_352 < ((p_0.Reads.length : Nat) : Int))))] ?_; refine tN ?_; refine sq ?_; rcases ifB_cases hG with ⟨h_355, hG⟩ | ⟨h_355, hG⟩
          ·try simp only [List.length_map, KCopyL.n_Log] at h_355
           refine sb 11 (bt h_355) ?_; refine ct ?_; refine kS ?_; refine tN ?_; refine sq ?_; refine bk ?_; refine sq ?_; replace hG := bind_some hG; obtain ⟨v_356, hy_356, hG⟩ := hG; refine rg ?_; refine fx inf44 (gd' (RowC p_0.Reads_A p_0.Reads_c KSeen.cells tr p_0.Reads) 0) hy_356 fun b_357 o_358 hi_356 => ?_
           refine rn 2 [(0, 0, 0, 0), (0, 2, 0, 0)] (fc (hi_356 .i64) f0) [(13, .agg #[I v_356.Key, I v_356.Ts])] ?_; refine l1 ?_; refine nw 7 vp [I 0, I 0] 90 fun g_359 => ?_
           refine l1 ?_; refine sr 0 g_359 [(0, I v_356.Key), (1, I v_356.Ts)] ?_; refine nl ?_; refine tN ?_; refine sq ?_; refine sq ?_; replace hG := bind_some hG; obtain ⟨v_360, hy_360, hG⟩ := hG; refine rg ?_; refine rn 2 [(1, 2, 0, 0)] f0 [(14, .func (.func 73) #[] #[]), (15, .agg #[I v_356.Key, I v_356.Ts])] ?_; refine l1 ?_; refine cl 16 (z_copies_wrong_3 F v_356 _ hy_360) hT trivial ?_; refine ra [] f0 [(18, B (decide (v_360 ≤ v_353)))] ?_; refine tN ?_; rcases ifB_cases hG with ⟨h_361, hG⟩ | ⟨h_361, hG⟩
           ·refine sb 18 (bt h_361) ?_; refine ct ?_; refine sq ?_; refine rg ?_; refine ra [] f0 [(4, B false)] ?_; refine tN ?_; refine kR ?_; refine tR ?_; refine hR ?_; refine tR ?_; refine tR ?_; have he_ := hO2_354 _ (Option.some.inj hG).symm; subst he_; replace hG := hG_354
            try (simp only [un2, un3, un4, un5, un6, un7, un8, Sum.elim_inl, Sum.elim_inr, List.length_map, KCopyL.n_Log] at hG; replace hG : _ = _ := hG)
            refine hR ?_; refine tR ?_; obtain rfl := Option.some.inj hG; replace hG := hG_363
            try (simp only [un2, un3, un4, un5, un6, un7, un8, Sum.elim_inl, Sum.elim_inr, List.length_map, KCopyL.n_Log] at hG; replace hG : _ = _ := hG)
            refine ri [] (B false) ?_; exact fun a w S hK hE => ⟨false, rfl, ⟨S, hE.sel [2, 3, 4]⟩, Option.some.inj hG⟩
           ·refine sb 18 (bf h_361) ?_; refine cf ?_; refine kS ?_; refine tN ?_; replace hG := bind_some hG; obtain ⟨v_362, hy_362, hG⟩ := hG; refine rg ?_; refine rn 2 [(1, 2, 0, 0)] f0 [(19, .func (.func 73) #[] #[]), (20, .agg #[I v_356.Key, I v_356.Ts])] ?_; refine l1 ?_; refine cl 21 (z_copies_wrong_3 F v_356 _ hy_362) hT trivial ?_; refine ra [] f0 [(5, I v_362)] ?_; refine hN ?_; refine tN ?_; refine rg ?_; refine ra [] f0 [(10, I (IntKind.i64.wrap (v_352 + 1)))] ?_; refine tN ?_; exact fun a w S hK hE => ⟨m_354, ⟨IntKind.i64.wrap (v_352 + 1), v_362, S, hK.wk, hE.sel [2, 3, 4], hO1_354 _ (Option.some.inj hG).symm⟩, Nat.lt_succ_self _⟩
          ·try simp only [List.length_map, KCopyL.n_Log] at h_355
           refine sb 11 (bf h_355) ?_; refine cf ?_; refine kX ?_; refine tX ?_; refine tX ?_; have he_ := hO2_354 _ (Option.some.inj hG).symm; subst he_; replace hG := hG_354
           try (simp only [un2, un3, un4, un5, un6, un7, un8, Sum.elim_inl, Sum.elim_inr, List.length_map, KCopyL.n_Log] at hG; replace hG : _ = _ := hG)
           refine hH ?_; refine tN ?_; exact fun a w S hK hE => ⟨S, hK.wk, hE.sel [0, 1, 2], Option.some.inj hG⟩
        ·rintro a w hJ; refine hJ.go fun ho_ => ?_
         clear hJ; subst ho_; replace hG := hG_363
         try (simp only [un2, un3, un4, un5, un6, un7, un8, Sum.elim_inl, Sum.elim_inr, List.length_map, KCopyL.n_Log] at hG; replace hG : _ = _ := hG)
         refine sq ?_; refine rg ?_; refine ra [] f0 [(4, B true)] ?_; refine tN ?_; refine kR ?_; refine ri [] (B true) ?_; exact fun a w S hK hE => ⟨true, rfl, ⟨S, hE.sel [0, 1, 2]⟩, Option.some.inj hG⟩
       ·rintro e w ⟨v_299, hJ⟩; refine hJ.go fun ho_ => ?_
        clear hJ; subst ho_
        try (simp only [un2, un3, un4, un5, un6, un7, un8, Sum.elim_inl, Sum.elim_inr, List.length_map, KCopyL.n_Log] at hG; replace hG : _ = _ := hG)
        refine rn 2 [] f0 [(50, B (!v_299))] ?_; refine sb 50 (nt h_301) ?_; refine rn 2 [(1, 1, 2, 3)] f0 [(52, .slice p_0.Writes_A p_0.Writes.length p_0.Writes_c)] ?_; refine l1 ?_; refine ci 53 (args := [.slice p_0.Writes_A p_0.Writes.length p_0.Writes_c, .func (.func 75) #[] #[]]) (fun E e w => ∃ (v_332 : Bool), Rs S0 w0 (B v_332) (se E [0, 1, 2]) (v_332 = v_332o) e w) Tryz.func74 rfl rfl ?_ ?_
        ·replace hG := hy_333
         try (simp only [un2, un3, un4, un5, un6, un7, un8, Sum.elim_inl, Sum.elim_inr, List.length_map, KCopyL.n_Log] at hG; replace hG : _ = _ := hG)
         refine sq ?_; refine rg ?_; refine ra [] f0 [] ?_; refine tN ?_; refine sq ?_; refine rg ?_; refine ra [] f0 [(5, I 0)] ?_; refine tN ?_; obtain ⟨o_393, hG, hG_393⟩ := bind_some hG; refine jn (fun K E a w => Js S0 w0 23 (dk [5] K) (se E [0, 1, 2]) (.inl () = o_393) a w) ?_ ?_
         ·refine sq ?_; refine rg ?_; refine ra [] f0 [(8, .slice p_0.Writes_A p_0.Writes.length p_0.Writes_c), (9, I ((p_0.Writes.length : Nat) : Int)), (10, I 0)] ?_; refine tN ?_; refine bk ?_; obtain ⟨e_384, hL, hG_384⟩ := bind_some hG; clear hG; obtain ⟨stp_384, hs_384, hL⟩ := iter_gen hL; refine lp (fun K E n_ a w => ∃ (v_382 : Int), ∃ (v_383 : Int), Js S0 w0 23 ([(5, I v_383), (10, I v_382)] ++ K) (se E [0, 1, 2]) (iter stp_384 n_ (v_382, v_383) = some e_384) a w) F ?_ ?_
          ·exact fun a w S hK hE => ⟨0, 0, S, hK.wk, hE.sel [0, 1, 2], hL⟩
          ·clear hL; rintro n_384 a w ⟨v_382, v_383, hJ⟩; refine hJ.go fun hL => ?_
           clear hJ; obtain ⟨m_384, o_384, rfl, hG, hO1_384, hO2_384⟩ := iter_step hL; clear hL; rw [hs_384] at hG
           try (simp only [un2, un3, un4, un5, un6, un7, un8, Sum.elim_inl, Sum.elim_inr, List.length_map, KCopyL.n_Log] at hG; replace hG : _ = _ := hG)
           refine sq ?_; refine rg ?_; refine ra [] f0 [(11, B (decide (v_382 < ((p_0.Writes.length : Nat) : Int))))] ?_; refine tN ?_; refine sq ?_; rcases ifB_cases hG with ⟨h_385, hG⟩ | ⟨h_385, hG⟩
           ·try simp only [List.length_map, KCopyL.n_Log] at h_385
            refine sb 11 (bt h_385) ?_; refine ct ?_; refine kS ?_; refine tN ?_; refine sq ?_; refine bk ?_; refine sq ?_; replace hG := bind_some hG; obtain ⟨v_386, hy_386, hG⟩ := hG; refine rg ?_; refine fx inf45 (gd' (RowC p_0.Writes_A p_0.Writes_c KWrite.cells tr p_0.Writes) 1) hy_386 fun b_387 o_388 hi_386 => ?_
            refine rn 2 [(0, 0, 0, 0), (0, 3, 0, 0)] (fc (hi_386 .i64) f0) [(13, .agg #[I v_386.Key, I v_386.Value, B v_386.Gone])] ?_; refine l1 ?_; refine nw 7 vp [I 0, I 0, B false] 52 fun g_389 => ?_
            refine l1 ?_; refine sr 0 g_389 [(0, I v_386.Key), (1, I v_386.Value), (2, B v_386.Gone)] ?_; refine nl ?_; refine tN ?_; refine sq ?_; refine sq ?_; replace hG := bind_some hG; obtain ⟨v_390, hy_390, hG⟩ := hG; refine rg ?_; refine rn 2 [(1, 3, 0, 0)] f0 [(14, .func (.func 75) #[] #[]), (15, .agg #[I v_386.Key, I v_386.Value, B v_386.Gone])] ?_; refine l1 ?_; refine cl 16 (z_copies_wrong_4 F v_386 _ hy_390) hT trivial ?_; refine ra [] f0 [(18, B (decide (v_390 ≤ v_383)))] ?_; refine tN ?_; rcases ifB_cases hG with ⟨h_391, hG⟩ | ⟨h_391, hG⟩
            ·refine sb 18 (bt h_391) ?_; refine ct ?_; refine sq ?_; refine rg ?_; refine ra [] f0 [(4, B false)] ?_; refine tN ?_; refine kR ?_; refine tR ?_; refine hR ?_; refine tR ?_; refine tR ?_; have he_ := hO2_384 _ (Option.some.inj hG).symm; subst he_; replace hG := hG_384
             try (simp only [un2, un3, un4, un5, un6, un7, un8, Sum.elim_inl, Sum.elim_inr, List.length_map, KCopyL.n_Log] at hG; replace hG : _ = _ := hG)
             refine hR ?_; refine tR ?_; obtain rfl := Option.some.inj hG; replace hG := hG_393
             try (simp only [un2, un3, un4, un5, un6, un7, un8, Sum.elim_inl, Sum.elim_inr, List.length_map, KCopyL.n_Log] at hG; replace hG : _ = _ := hG)
             refine ri [] (B false) ?_; exact fun a w S hK hE => ⟨false, rfl, ⟨S, hE.sel [2, 3, 4]⟩, Option.some.inj hG⟩
            ·refine sb 18 (bf h_391) ?_; refine cf ?_; refine kS ?_; refine tN ?_; replace hG := bind_some hG; obtain ⟨v_392, hy_392, hG⟩ := hG; refine rg ?_; refine rn 2 [(1, 3, 0, 0)] f0 [(19, .func (.func 75) #[] #[]), (20, .agg #[I v_386.Key, I v_386.Value, B v_386.Gone])] ?_; refine l1 ?_; refine cl 21 (z_copies_wrong_4 F v_386 _ hy_392) hT trivial ?_; refine ra [] f0 [(5, I v_392)] ?_; refine hN ?_; refine tN ?_; refine rg ?_; refine ra [] f0 [(10, I (IntKind.i64.wrap (v_382 + 1)))] ?_; refine tN ?_; exact fun a w S hK hE => ⟨m_384, ⟨IntKind.i64.wrap (v_382 + 1), v_392, S, hK.wk, hE.sel [2, 3, 4], hO1_384 _ (Option.some.inj hG).symm⟩, Nat.lt_succ_self _⟩
           ·try simp only [List.length_map, KCopyL.n_Log] at h_385
            refine sb 11 (bf h_385) ?_; refine cf ?_; refine kX ?_; refine tX ?_; refine tX ?_; have he_ := hO2_384 _ (Option.some.inj hG).symm; subst he_; replace hG := hG_384
            try (simp only [un2, un3, un4, un5, un6, un7, un8, Sum.elim_inl, Sum.elim_inr, List.length_map, KCopyL.n_Log] at hG; replace hG : _ = _ := hG)
            refine hH ?_; refine tN ?_; exact fun a w S hK hE => ⟨S, hK.wk, hE.sel [0, 1, 2], Option.some.inj hG⟩
         ·rintro a w hJ; refine hJ.go fun ho_ => ?_
          clear hJ; subst ho_; replace hG := hG_393
          try (simp only [un2, un3, un4, un5, un6, un7, un8, Sum.elim_inl, Sum.elim_inr, List.length_map, KCopyL.n_Log] at hG; replace hG : _ = _ := hG)
          refine sq ?_; refine rg ?_; refine ra [] f0 [(4, B true)] ?_; refine tN ?_; refine kR ?_; refine ri [] (B true) ?_; exact fun a w S hK hE => ⟨true, rfl, ⟨S, hE.sel [0, 1, 2]⟩, Option.some.inj hG⟩
        ·rintro e w ⟨v_332, hJ⟩; refine hJ.go fun ho_ => ?_
         clear hJ; subst ho_
         try (simp only [un2, un3, un4, un5, un6, un7, un8, Sum.elim_inl, Sum.elim_inr, List.length_map, KCopyL.n_Log] at hG; replace hG : _ = _ := hG)
         refine ra [] f0 [(2, B (!v_332))] ?_; refine tN ?_; exact fun a w S hK hE => ⟨!v_332, S, hK.wk, hE.sel [], Option.some.inj hG⟩
      ·refine rg ?_; refine rn 2 [(1, 1, 2, 2)] f0 [(47, .slice p_0.Reads_A p_0.Reads.length p_0.Reads_c)] ?_; refine l1 ?_; refine ci 48 (args := [.slice p_0.Reads_A p_0.Reads.length p_0.Reads_c, .func (.func 73) #[] #[]]) (fun E e w => ∃ (v_299 : Bool), Rs S0 w0 (B v_299) (se E [0, 1, 2]) (v_299 = v_299o) e w) Tryz.func72 rfl rfl ?_ ?_
       ·replace hG := hy_300
        try (simp only [un2, un3, un4, un5, un6, un7, un8, Sum.elim_inl, Sum.elim_inr, List.length_map, KCopyL.n_Log] at hG; replace hG : _ = _ := hG)
        refine sq ?_; refine rg ?_; refine ra [] f0 [] ?_; refine tN ?_; refine sq ?_; refine rg ?_; refine ra [] f0 [(5, I 0)] ?_; refine tN ?_; obtain ⟨o_423, hG, hG_423⟩ := bind_some hG; refine jn (fun K E a w => Js S0 w0 23 (dk [5] K) (se E [0, 1, 2]) (.inl () = o_423) a w) ?_ ?_
        ·refine sq ?_; refine rg ?_; refine ra [] f0 [(8, .slice p_0.Reads_A p_0.Reads.length p_0.Reads_c), (9, I ((p_0.Reads.length : Nat) : Int)), (10, I 0)] ?_; refine tN ?_; refine bk ?_; obtain ⟨e_414, hL, hG_414⟩ := bind_some hG; clear hG; obtain ⟨stp_414, hs_414, hL⟩ := iter_gen hL; refine lp (fun K E n_ a w => ∃ (v_412 : Int), ∃ (v_413 : Int), Js S0 w0 23 ([(5, I v_413), (10, I v_412)] ++ K) (se E [0, 1, 2]) (iter stp_414 n_ (v_412, v_413) = some e_414) a w) F ?_ ?_
         ·exact fun a w S hK hE => ⟨0, 0, S, hK.wk, hE.sel [0, 1, 2], hL⟩
         ·clear hL; rintro n_414 a w ⟨v_412, v_413, hJ⟩; refine hJ.go fun hL => ?_
          clear hJ; obtain ⟨m_414, o_414, rfl, hG, hO1_414, hO2_414⟩ := iter_step hL; clear hL; rw [hs_414] at hG
          try (simp only [un2, un3, un4, un5, un6, un7, un8, Sum.elim_inl, Sum.elim_inr, List.length_map, KCopyL.n_Log] at hG; replace hG : _ = _ := hG)
          refine sq ?_; refine rg ?_; refine ra [] f0 [(11, B (decide (v_412 < ((p_0.Reads.length : Nat) : Int))))] ?_; refine tN ?_; refine sq ?_; rcases ifB_cases hG with ⟨h_415, hG⟩ | ⟨h_415, hG⟩
          ·try simp only [List.length_map, KCopyL.n_Log] at h_415
           refine sb 11 (bt h_415) ?_; refine ct ?_; refine kS ?_; refine tN ?_; refine sq ?_; refine bk ?_; refine sq ?_; replace hG := bind_some hG; obtain ⟨v_416, hy_416, hG⟩ := hG; refine rg ?_; refine fx inf44 (gd' (RowC p_0.Reads_A p_0.Reads_c KSeen.cells tr p_0.Reads) 0) hy_416 fun b_417 o_418 hi_416 => ?_
           refine rn 2 [(0, 0, 0, 0), (0, 2, 0, 0)] (fc (hi_416 .i64) f0) [(13, .agg #[I v_416.Key, I v_416.Ts])] ?_; refine l1 ?_; refine nw 7 vp [I 0, I 0] 90 fun g_419 => ?_
           refine l1 ?_; refine sr 0 g_419 [(0, I v_416.Key), (1, I v_416.Ts)] ?_; refine nl ?_; refine tN ?_; refine sq ?_; refine sq ?_; replace hG := bind_some hG; obtain ⟨v_420, hy_420, hG⟩ := hG; refine rg ?_; refine rn 2 [(1, 2, 0, 0)] f0 [(14, .func (.func 73) #[] #[]), (15, .agg #[I v_416.Key, I v_416.Ts])] ?_; refine l1 ?_; refine cl 16 (z_copies_wrong_3 F v_416 _ hy_420) hT trivial ?_; refine ra [] f0 [(18, B (decide (v_420 ≤ v_413)))] ?_; refine tN ?_; rcases ifB_cases hG with ⟨h_421, hG⟩ | ⟨h_421, hG⟩
           ·refine sb 18 (bt h_421) ?_; refine ct ?_; refine sq ?_; refine rg ?_; refine ra [] f0 [(4, B false)] ?_; refine tN ?_; refine kR ?_; refine tR ?_; refine hR ?_; refine tR ?_; refine tR ?_; have he_ := hO2_414 _ (Option.some.inj hG).symm; subst he_; replace hG := hG_414
            try (simp only [un2, un3, un4, un5, un6, un7, un8, Sum.elim_inl, Sum.elim_inr, List.length_map, KCopyL.n_Log] at hG; replace hG : _ = _ := hG)
            refine hR ?_; refine tR ?_; obtain rfl := Option.some.inj hG; replace hG := hG_423
            try (simp only [un2, un3, un4, un5, un6, un7, un8, Sum.elim_inl, Sum.elim_inr, List.length_map, KCopyL.n_Log] at hG; replace hG : _ = _ := hG)
            refine ri [] (B false) ?_; exact fun a w S hK hE => ⟨false, rfl, ⟨S, hE.sel [2, 3, 4]⟩, Option.some.inj hG⟩
           ·refine sb 18 (bf h_421) ?_; refine cf ?_; refine kS ?_; refine tN ?_; replace hG := bind_some hG; obtain ⟨v_422, hy_422, hG⟩ := hG; refine rg ?_; refine rn 2 [(1, 2, 0, 0)] f0 [(19, .func (.func 73) #[] #[]), (20, .agg #[I v_416.Key, I v_416.Ts])] ?_; refine l1 ?_; refine cl 21 (z_copies_wrong_3 F v_416 _ hy_422) hT trivial ?_; refine ra [] f0 [(5, I v_422)] ?_; refine hN ?_; refine tN ?_; refine rg ?_; refine ra [] f0 [(10, I (IntKind.i64.wrap (v_412 + 1)))] ?_; refine tN ?_; exact fun a w S hK hE => ⟨m_414, ⟨IntKind.i64.wrap (v_412 + 1), v_422, S, hK.wk, hE.sel [2, 3, 4], hO1_414 _ (Option.some.inj hG).symm⟩, Nat.lt_succ_self _⟩
          ·try simp only [List.length_map, KCopyL.n_Log] at h_415
           refine sb 11 (bf h_415) ?_; refine cf ?_; refine kX ?_; refine tX ?_; refine tX ?_; have he_ := hO2_414 _ (Option.some.inj hG).symm; subst he_; replace hG := hG_414
           try (simp only [un2, un3, un4, un5, un6, un7, un8, Sum.elim_inl, Sum.elim_inr, List.length_map, KCopyL.n_Log] at hG; replace hG : _ = _ := hG)
           refine hH ?_; refine tN ?_; exact fun a w S hK hE => ⟨S, hK.wk, hE.sel [0, 1, 2], Option.some.inj hG⟩
        ·rintro a w hJ; refine hJ.go fun ho_ => ?_
         clear hJ; subst ho_; replace hG := hG_423
         try (simp only [un2, un3, un4, un5, un6, un7, un8, Sum.elim_inl, Sum.elim_inr, List.length_map, KCopyL.n_Log] at hG; replace hG : _ = _ := hG)
         refine sq ?_; refine rg ?_; refine ra [] f0 [(4, B true)] ?_; refine tN ?_; refine kR ?_; refine ri [] (B true) ?_; exact fun a w S hK hE => ⟨true, rfl, ⟨S, hE.sel [0, 1, 2]⟩, Option.some.inj hG⟩
       ·rintro e w ⟨v_299, hJ⟩; refine hJ.go fun ho_ => ?_
        clear hJ; subst ho_
        try (simp only [un2, un3, un4, un5, un6, un7, un8, Sum.elim_inl, Sum.elim_inr, List.length_map, KCopyL.n_Log] at hG; replace hG : _ = _ := hG)
        refine rn 2 [] f0 [(50, B (!v_299))] ?_; refine sb 50 (nf h_301) ?_; refine ra [] f0 [(2, B true)] ?_; refine tN ?_; exact fun a w S hK hE => ⟨true, S, hK.wk, hE.sel [], Option.some.inj hG⟩
     ·rintro a w ⟨v_425, hJ⟩; refine hJ.go fun ho_ => ?_
      clear hJ; subst ho_; replace hG := hG_424
      try (simp only [un2, un3, un4, un5, un6, un7, un8, Sum.elim_inl, Sum.elim_inr, List.length_map, KCopyL.n_Log] at hG; replace hG : _ = _ := hG)
      refine kR ?_; obtain rfl := Option.some.inj hG; exact rt []
end Go.Proofs.YtkchfmhgboiimaaGreat
