/-
  The walk of slices.Insert at versions, where one version is inserted into a row that the call has made.
-/
import Derived.Test.YtficjpfhakggmaaClV
import Derived.Test.YtficjpfhakggmaaCopy
namespace Go.Proofs.Ytficjpfhakggmaa
open Go.RowKit
theorem run_overlaps {P : Program} (w : World) (t u : TypeId) (rs : Array TypeId) (elem : TypeId) (size : Nat) (hu : P.underlying t = some (.slice elem)) (hs : (P.info? elem).map (·.size) = some size)
    (g1 g2 o1 o2 n1 n2 c1 c2 : Nat) (t1 t2 : TypeId) (cs1 cs2 : Array Value) (h1 : Blk w g1 t1 cs1) (h2 : Blk w g2 t2 cs2) (hne : g1 ≠ g2) :
    (Extern.SlicesOverlaps.overlaps #[t, u] rs #[.slice (some ⟨g1, o1, none⟩) n1 c1, .slice (some ⟨g2, o2, none⟩) n2 c2]).run P w = .ok (.bool false) w := by
  have f1 := fun o => h1.frozen o
  have f2 := fun o => h2.frozen o
  have s1 : w.shape? g1 = some (t1, cs1.size) := by unfold Blk at h1; simp [World.shape?, h1]
  have s2 : w.shape? g2 = some (t2, cs2.size) := by unfold Blk at h2; simp [World.shape?, h2]
  cases hq : P.info? elem with
  | none => simp [hq] at hs
  | some i =>
    conv => lhs; arg 2; whnf

    simp [Sem.run_bind', hu, sizeOf, typeInfo, hq, hne, f1, f2, s1, s2, noView, viewAt, mayBeOne, stringish, shape, frozen, Sem.run]
theorem ov_call (args : Array Value) (w : World) : (callFunc 102 args).run Try.prog w =
    ((Extern.SlicesOverlaps.overlaps #[22, 22] #[4] args).run Try.prog w).andThen fun v w' => .ok (.value v) w' :=
  run_callFunc_extern Try.func102 (by kernel_rfl) (by kernel_rfl) (by kernel_rfl) (by kernel_rfl) args w
set_option maxHeartbeats 1000000 in
set_option maxRecDepth 100000 in
theorem insertV_end (A : Option Addr) (c : Nat) (l : List Ver) (x : Ver) (g base : Nat) (w : World) (ho : OwnV w base (.slice A l.length c) l) (hbase : base ≤ w.heap.size)
    (hl : l.length < 4000) (hx : Blk w g 44 x.cells.toArray) :
    Calls Try.prog 92 #[.slice A l.length c, .int .i64 l.length, .slice (some ⟨g, 0, none⟩) 1 1] w
      fun e w' => ∃ v, e = .returned v ∧ OwnV w' base v (l ++ [x]) ∧ Below base w w' := by
  obtain ⟨i0, hi, hz0, hz1, hz2⟩ := info_parts infoV
  obtain ⟨_, _, hv, hlc, hcm, _⟩ := ho.form
  injection hv with e1 e2 e3
  subst e1 e3
  unfold maxLen at hcm
  go_enter Try.func92, Try.ntmps92
  go_wp2_with (at_builtin; refine wpList_append_rd _ rfl _ _ 22 rfl base 44 i0 _ 4 32 Try.underlying22 hi hz0 hz1 hz2 rfl (by decide) _ _ _ rfl ho (some ⟨g, 0, none⟩) 1 1 x.cells rfl rfl (by simpa using Rd.of_blk hx) (by simpa using ver_one [x]) ?_ ?_ hbase ?_)
  · simp only [maxLen]; omega
  · omega
  all_goals
    intro v1 w1 h1 hg _
    go_wp2
    go_ret
    refine ⟨v1, rfl, by simpa [OwnV] using h1, (Below.refl _ _).grown hg hbase (fun k hk => (ho.lt k (by cases A <;> (simp [Value.ownBlock] at hk ⊢; try exact hk))).1)⟩
set_option maxHeartbeats 2000000 in
set_option maxRecDepth 100000 in
theorem insertV_grow (A : Option Addr) (l : List Ver) (i : Nat) (x : Ver) (g base : Nat) (w : World) (ho : OwnV w base (.slice A l.length l.length) l) (hbase : base ≤ w.heap.size)
    (hil : i < l.length) (hl : l.length < 4000) (hx : Blk w g 44 x.cells.toArray) :
    Calls Try.prog 92 #[.slice A l.length l.length, .int .i64 i, .slice (some ⟨g, 0, none⟩) 1 1] w
      fun e w' => ∃ v, e = .returned v ∧ OwnV w' base v (l.take i ++ x :: l.drop i) ∧ Below base w w' := by
  obtain ⟨i0, hi, hz0, hz1, hz2⟩ := info_parts infoV
  have hne : ((i : Int) == (l.length : Int)) = false := by simp; omega
  have hnl : ¬ l.length = i := by omega
  have h0 : (0 : Int) ≤ (l.length : Int) + 1 - i := by omega
  go_enter Try.func92, Try.ntmps92
  have htk : ((l.take i).flatMap Ver.cells).length = i * 4 := by rw [flat_len _ 4 (fun _ => rfl)]; simp; omega
  obtain ⟨g0, rfl, hg0⟩ : ∃ g0, A = some ⟨g0, 0, none⟩ ∧ base ≤ g0 := by
    rcases ho.2 with ⟨_, h⟩ | ⟨g0, _, _, h, hb, _⟩
    · omega
    · injection h with h _ _; exact ⟨g0, h, hb⟩
  go_upto_region 11 with (first
    | (at_builtin; refine wpList_append_zeros rfl _ _ 22 3 rfl 44 .i64 i0 _ 4 32 Try.underlying22 Try.underlying3 hi hz0 hz1 hz2 rfl (some ⟨g0, 0, none⟩) i l.length (l.length + 1 - i) ((l.length : Int) + 1 - i) rfl rfl (by omega) ((l.take i).flatMap Ver.cells) htk (Rd.take (Rd.of_own ho) (take_flat _ l i)) (l.length + 1) (by omega) (by omega) (by omega) (by omega) (by omega) (by omega) ?_; intro cells cap w1 k1 k2 k3 k4 k5 k6 k7; have hci : ¬ cap = i := (by omega); have hci1 : ¬ cap = i + 1 := (by omega); have HK := hide k3; have HK4 := hide k4; have HK7 := hide k7; clear k3 k4 k7)
    | (with_reducible refine wpList_copyN rfl (.tmp 43) (.tmp 44) 22 22 rfl 44 4 Try.underlying22 (by kernel_rfl) _ _ _ _ _ _ rfl rfl w.heap.size (i * 4) cells 44 k5 x.cells ?_ ?_ ?_ ?_ ?_ ?_))
  · simp only [Ver.cells, List.length_cons, List.length_nil]; rw [show Nat.min 1 (l.length + 1 - i) = 1 from Nat.min_eq_left (by omega)]
  · exact (Rd.of_blk hx).below (Below.of_grown k6) (Nat.le_refl _)
  · rw [HK.out]; simp only [Ver.cells, List.length_cons, List.length_nil]; omega
  · simpa using ver_one [x]
  intro w2 q1 q2 q3
  have HQ3 := hide q3
  clear q3
  go_upto_region 11 with fail
  have b2 : Below w.heap.size w w2 := (Below.of_grown k6).trans ((Below.refl _ _).grown q2 (by have := HK7.out; omega) (fun k hk => by cases hk; exact Nat.le_refl _))
  have hrest : Rd w2 (some ⟨g0, 0 + i * 4, none⟩) ((l.drop i).flatMap Ver.cells) := by
    have h2 : Rd w2 (some ⟨g0, 0, none⟩) (((l.take i).flatMap Ver.cells) ++ (l.drop i).flatMap Ver.cells) := by
      rw [← List.flatMap_append, List.take_append_drop]
      exact (Rd.of_own ho).below b2 (Nat.le_refl _)
    have h3 := h2.shift
    rw [htk] at h3
    exact h3
  have hrl : ((l.drop i).flatMap Ver.cells).length = (l.length - i) * 4 := by rw [flat_len _ 4 (fun _ => rfl)]; simp
  have i0 : (0 : Int) ≤ (i : Int) + 1 := by omega
  have i1 : (i : Int) + 1 ≤ (l.length : Int) + 1 := by omega
  have i2 : (i : Int) ≤ (l.length : Int) := by omega
  have HR := hide hrl
  have HT := hide htk
  clear hrl htk
  have hw1 : IntKind.i64.wrap ((i : Int) + 1) = (i : Int) + 1 := IntWalk.i64_in _ (by omega)
  have hw2 : ((i : Int) + 1).toNat = i + 1 := by omega
  have hcl := hide (show cells.toList.length = cap * 4 by rw [← HK.out]; exact Array.length_toList)
  have hx4 := hide (show x.cells.length = 4 from rfl)
  have hs1 := hide (show (splice cells.toList (i * 4) x.cells).length = cap * 4 by rw [length_splice _ _ _ (by rw [hx4.out, hcl.out]; omega), hcl.out])
  have hfit : (i + 1) * 4 + ((l.drop i).flatMap Ver.cells).length ≤ (splice cells.toList (i * 4) x.cells).toArray.size := by
    rw [HR.out, List.size_toArray, hs1.out]
    omega
  go_region_held3 (fun _ => True) (trivial) ((refine step_copyN rfl (.tmp 50) (.tmp 53) 22 22 rfl 44 4 Try.underlying22 (by kernel_rfl) _ _ _ _ _ _ rfl rfl w.heap.size ((i + 1) * 4) _ 44 q1 ((l.drop i).flatMap Ver.cells) (by rw [HR.out]; congr 1; simp) (fun _ => by simp) (by simpa using hrest.below (Below.refl _ _).drew (Nat.le_refl _)) hfit (ver_one _) ?_; intro w3 r1 r2 r3))
  go_wp2
  go_ret
  have b3 : Below w.heap.size w w3 := b2.drew.trans ((Below.refl _ _).grown r2 b2.size (fun k hk => by cases hk; exact Nat.le_refl _))
  refine ⟨_, rfl, ?_, b3.mono hbase⟩
  have hlen : (l.take i ++ x :: l.drop i).length = l.length + 1 := by simp; omega
  have hcs : (l.take i ++ x :: l.drop i).flatMap Ver.cells = (l.take i).flatMap Ver.cells ++ x.cells ++ (l.drop i).flatMap Ver.cells := by simp
  unfold OwnV
  rw [hlen, hcs]
  refine ⟨?_, .inr ⟨w.heap.size, cap, _, rfl, hbase, r1, k1, k2, ?_, ?_⟩⟩
  · rw [List.length_append, List.length_append, HT.out, HR.out, hx4.out]; omega
  · rw [List.size_toArray, length_splice _ _ _ (by simpa using hfit)]
    exact hs1.out
  · have := splice_two (C := cells.toList) (X := x.cells) (R := (l.drop i).flatMap Ver.cells) HT.out (m := 4) rfl HK4.out (by rw [hcl.out, HR.out]; omega)
    rw [HR.out, show i * 4 + 4 + (l.length - i) * 4 = (l.length + 1) * 4 from by omega, show i * 4 + 4 = (i + 1) * 4 from by omega] at this
    exact this
set_option maxHeartbeats 2000000 in
set_option maxRecDepth 100000 in
theorem insertV_room (A : Option Addr) (l : List Ver) (c i : Nat) (x : Ver) (g base : Nat) (w : World) (ho : OwnV w base (.slice A l.length c) l) (hbase : base ≤ w.heap.size)
    (hil : i < l.length) (hl : l.length < 4000) (hc : l.length + 1 ≤ c) (hx : Blk w g 44 x.cells.toArray) (hgo : ∀ a, A = some a → a.block ≠ g) :
    Calls Try.prog 92 #[.slice A l.length c, .int .i64 i, .slice (some ⟨g, 0, none⟩) 1 1] w
      fun e w' => ∃ v, e = .returned v ∧ OwnV w' base v (l.take i ++ x :: l.drop i) ∧ Below base w w' := by
  have hne : ((i : Int) == (l.length : Int)) = false := by simp; omega
  obtain ⟨g0, cur, rfl, hg0, hblk, hcm, hcs, htake⟩ : ∃ g0 cur, A = some ⟨g0, 0, none⟩ ∧ base ≤ g0 ∧ Blk w g0 44 cur ∧ c ≤ maxLen ∧ cur.size = c * 4 ∧ cur.toList.take (l.length * 4) = l.flatMap Ver.cells := by
    rcases ho.2 with ⟨_, h⟩ | ⟨g0, cap, cur, h, hb, hh, hnc, hcm, hcs, ht⟩
    · omega
    · injection h with h1 _ h3; subst h3; exact ⟨g0, cur, h1, hb, hh, hcm, hcs, ht⟩
  have hgg : g0 ≠ g := fun e => hgo _ rfl e
  have ov := fun (n : Nat) (m o : Nat) => (ov_call #[.slice (some ⟨g, 0, none⟩) 1 1, .slice (some ⟨g0, o, none⟩) n m] w).trans (by rw [run_overlaps (P := Try.prog) w 22 22 #[4] 44 4 Try.underlying22 (by kernel_rfl) g g0 0 o 1 n 1 m _ _ _ _ hx hblk (Ne.symm hgg)])
  unfold maxLen at hcm
  have hci : ¬ c = i := by omega
  have hci1 : ¬ c = i + 1 := by omega
  go_enter Try.func92, Try.ntmps92
  have HT := hide htake
  have HC := hide hcs
  clear htake hcs
  go_upto_region 15 with fail
  have hrl : ((l.drop i).flatMap Ver.cells).length = (l.length - i) * 4 := by rw [flat_len _ 4 (fun _ => rfl)]; simp
  have htk : ((l.take i).flatMap Ver.cells).length = i * 4 := by rw [flat_len _ 4 (fun _ => rfl)]; simp; omega
  have hrest : Rd w (some ⟨g0, 0 + i * 4, none⟩) ((l.drop i).flatMap Ver.cells) := by
    have h2 : Rd w (some ⟨g0, 0, none⟩) (((l.take i).flatMap Ver.cells) ++ (l.drop i).flatMap Ver.cells) := by
      rw [← List.flatMap_append, List.take_append_drop]
      exact Rd.of_own ho
    have h3 := h2.shift
    rw [htk] at h3
    exact h3
  have j0 : (0 : Int) ≤ (i : Int) + 1 := by omega
  have j1 : (i : Int) + 1 ≤ (l.length : Int) + 1 := by omega
  have j2 : (i : Int) ≤ (l.length : Int) + 1 := by omega
  have HR := hide hrl
  have HP := hide htk
  have hcl := hide (show cur.toList.length = c * 4 by rw [← HC.out]; exact Array.length_toList)
  have hx4 := hide (show x.cells.length = 4 from rfl)
  have htki := hide (show cur.toList.take (i * 4) = (l.take i).flatMap Ver.cells by
    obtain ⟨zs, hz⟩ := take_flat Ver.cells l i
    have h1 : (cur.toList.take (l.length * 4)).take (i * 4) = (l.take i).flatMap Ver.cells := by
      rw [HT.out, hz, ← htk]; simp
    rw [List.take_take, Nat.min_eq_left (by omega)] at h1
    exact h1)
  have hdri := hide (show (cur.toList.take (l.length * 4)).drop (i * 4) = (l.drop i).flatMap Ver.cells by
    rw [HT.out]
    have : l.flatMap Ver.cells = (l.take i).flatMap Ver.cells ++ (l.drop i).flatMap Ver.cells := by rw [← List.flatMap_append, List.take_append_drop]
    rw [this, ← htk]; simp)
  clear hrl htk
  have hw1 : IntKind.i64.wrap ((i : Int) + 1) = (i : Int) + 1 := IntWalk.i64_in _ (by omega)
  have hw2 : ((i : Int) + 1).toNat = i + 1 := by omega
  have hfit : (i + 1) * 4 + ((l.drop i).flatMap Ver.cells).length ≤ cur.size := by rw [HR.out, HC.out]; omega
  have hs1 := hide (show (splice cur.toList ((i + 1) * 4) ((l.drop i).flatMap Ver.cells)).length = c * 4 by rw [length_splice _ _ _ (by rw [HR.out, hcl.out]; omega), hcl.out])
  go_region_held3 (fun _ => True) (trivial) ((refine step_copyN rfl (.tmp 73) (.tmp 76) 22 22 rfl 44 4 Try.underlying22 (by kernel_rfl) _ _ _ _ _ _ rfl rfl g0 ((i + 1) * 4) cur 44 hblk.drew ((l.drop i).flatMap Ver.cells) (by rw [HR.out]; congr 1; simp [Nat.min_def]; omega) (fun _ => by simp) (by simpa using hrest.below (Below.refl _ _).drew (Nat.le_refl _)) hfit (ver_one _) ?_; intro w3 r1 r2 r3))
  have hxw : Blk w3 g 44 x.cells.toArray := (r2.block g (by simpa using hx.lt) (fun e => hgg (by injection e with e; exact e.symm))).trans hx
  have R3 := hide r3
  clear r3
  go_upto_region 17 with (with_reducible refine wpList_copyN rfl (.tmp 80) (.tmp 81) 22 22 rfl 44 4 Try.underlying22 (by kernel_rfl) _ _ _ _ _ _ rfl rfl g0 (i * 4) _ 44 r1 x.cells ?_ ?_ ?_ ?_ ?_ ?_)
  · simp only [Ver.cells, List.length_cons, List.length_nil]; rw [show Nat.min 1 (l.length + 1 - i) = 1 from Nat.min_eq_left (by omega)]
  · exact Rd.of_blk hxw
  · rw [hx4.out, List.size_toArray, hs1.out]; omega
  · simpa using ver_one [x]
  intro w4 q1 q2 q3
  go_wp2
  go_ret
  have b4 : Below base w w4 := (((Below.refl base w).drew).grown r2 (by simpa using hbase) (fun k hk => by cases hk; exact hg0)).grown q2 (by rw [R3.out]; simpa using hbase) (fun k hk => by cases hk; exact hg0)
  refine ⟨_, rfl, ?_, b4⟩
  have hlen : (l.take i ++ x :: l.drop i).length = l.length + 1 := by simp; omega
  have hcs : (l.take i ++ x :: l.drop i).flatMap Ver.cells = (l.take i).flatMap Ver.cells ++ x.cells ++ (l.drop i).flatMap Ver.cells := by simp
  unfold OwnV
  rw [hlen, hcs]
  refine ⟨?_, .inr ⟨g0, c, _, rfl, hg0, q1, hc, by unfold maxLen; omega, ?_, ?_⟩⟩
  · rw [List.length_append, List.length_append, HP.out, HR.out, hx4.out]; omega
  · rw [List.size_toArray, length_splice _ _ _ (by rw [hx4.out, hs1.out]; omega)]
    exact hs1.out
  · have := splice_two' (C := cur.toList) (X := x.cells) (R := (l.drop i).flatMap Ver.cells) HP.out (m := 4) rfl htki.out (by rw [hcl.out, HR.out]; omega)
    rw [HR.out, show i * 4 + 4 + (l.length - i) * 4 = (l.length + 1) * 4 from by omega, show i * 4 + 4 = (i + 1) * 4 from by omega] at this
    exact this
/-- slices.Insert of one version -/
theorem insertV_any (A : Option Addr) (c : Nat) (l : List Ver) (i : Nat) (x : Ver) (g base : Nat) (w : World) (ho : OwnV w base (.slice A l.length c) l) (hbase : base ≤ w.heap.size)
    (hil : i ≤ l.length) (hl : l.length < 4000) (hx : Blk w g 44 x.cells.toArray) (hgo : ∀ a, A = some a → a.block ≠ g) :
    Calls Try.prog 92 #[.slice A l.length c, .int .i64 i, .slice (some ⟨g, 0, none⟩) 1 1] w
      fun e w' => ∃ v, e = .returned v ∧ OwnV w' base v (l.take i ++ x :: l.drop i) ∧ Below base w w' := by
  obtain ⟨_, _, hv, hlc, _, _⟩ := ho.form
  injection hv with e1 e2 e3
  subst e3
  by_cases h1 : i = l.length
  · subst h1
    simpa using insertV_end A c l x g base w ho hbase hl hx
  · by_cases h2 : c = l.length
    · subst h2
      exact insertV_grow A l i x g base w ho hbase (by omega) hl hx
    · exact insertV_room A l c i x g base w ho hbase (by omega) hl (by omega) hx hgo
end Go.Proofs.Ytficjpfhakggmaa
