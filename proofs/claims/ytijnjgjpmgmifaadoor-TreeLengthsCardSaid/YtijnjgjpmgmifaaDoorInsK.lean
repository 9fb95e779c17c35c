/-
  The walk of slices.Insert at integers, where one integer is inserted ahead of a row that the call has made.
-/
import Derived.Test.YtijnjgjpmgmifaaDoorIn
import Derived.Test.YtijnjgjpmgmifaaDoorKr
namespace Go.Proofs.YtijnjgjpmgmifaaDoor
open Go.RowKit
theorem run_overlaps {P : Program} (w : World) (t u : TypeId) (rs : Array TypeId) (elem : TypeId) (size : Nat) (hu : P.underlying t = some (.slice elem)) (hs : (P.info? elem).map (·.size) = some size)
    (g1 g2 o1 o2 n1 n2 c1 c2 : Nat) (t1 t2 : TypeId) (cs1 cs2 : Array Value) (h1 : Blk w g1 t1 cs1) (h2 : Blk w g2 t2 cs2) (hne : g1 ≠ g2) :
    (Extern.SlicesOverlaps.overlaps #[t, u] rs #[.slice (some ⟨g1, o1, none⟩) n1 c1, .slice (some ⟨g2, o2, none⟩) n2 c2]).run P w = .ok (.bool false) w := by
  have f1 := fun o => h1.frozen o
  have f2 := fun o => h2.frozen o
  have s1 : w.shape? g1 = some (t1, cs1.size) := by unfold Blk at h1; simp [World.shape?, h1]
  have s2 : w.shape? g2 = some (t2, cs2.size) := by unfold Blk at h2; simp [World.shape?, h2]
  cases hq : P.info? elem with
  | none => simp [hq] at hs
  | some i =>
    conv => lhs; arg 2; whnf

    simp [Sem.run_bind', hu, sizeOf, typeInfo, hq, hne, f1, f2, s1, s2, noView, viewAt, mayBeOne, stringish, shape, frozen, Sem.run]
theorem ov_call (args : Array Value) (w : World) : (callFunc 52 args).run Tryd.prog w =
    ((Extern.SlicesOverlaps.overlaps #[22, 22] #[4] args).run Tryd.prog w).andThen fun v w' => .ok (.value v) w' :=
  run_callFunc_extern Tryd.func52 (by kernel_rfl) (by kernel_rfl) (by kernel_rfl) (by kernel_rfl) args w
theorem OwnK.rd {k : IntKind} {e : TypeId} {w : World} {base n c : Nat} {A : Option Addr} {l : List Int} (h : OwnK k e w base (.slice A n c) l) : KS k w A l := by
  obtain ⟨A', c', hv, _, _, hk⟩ := h.form
  injection hv with e1 e2 e3
  subst e1
  exact hk
set_option maxHeartbeats 1000000 in
theorem insertK_end (A : Option Addr) (c : Nat) (x : Int) (g base : Nat) (w : World) (ho : OwnK .u64 23 w base (.slice A 0 c) []) (hbase : base ≤ w.heap.size)
    (hx : Blk w g 23 #[.int .u64 x]) :
    Calls Tryd.prog 39 #[.slice A 0 c, .int .i64 0, .slice (some ⟨g, 0, none⟩) 1 1] w
      fun e w' => ∃ v, e = .returned v ∧ OwnK .u64 23 w' base v [x] ∧ Below base w w' := by
  obtain ⟨i0, hi, hz0, hz1, hz2⟩ := info_parts infoU
  obtain ⟨_, _, hv, hlc, hcm, _⟩ := ho.form
  injection hv with e1 e2 e3
  subst e1 e3
  clear e2
  unfold maxLen at hcm
  have HO := hide ho
  have HX := hide (show KS .u64 w (some ⟨g, 0, none⟩) [x] from Rd.of_blk hx)
  clear ho hx
  have hcase : A = none ∧ c = 0 ∨ ∃ g0, A = some ⟨g0, 0, none⟩ := by
    rcases HO.out.2 with ⟨hv, _⟩ | ⟨g0, cap, cur, hv, _⟩
    · injection hv with e1 e2 e3; exact .inl ⟨e1, e3⟩
    · injection hv with e1 e2 e3; exact .inr ⟨g0, e1⟩
  have fin : ∀ v1 w1, World.ownsRow w1 base 23 1 v1 (0 + 1) ([] ++ [.int .u64 x]) → w.grownBy w1 (Value.slice A 0 c).ownBlock → OwnK .u64 23 w1 base v1 [x] ∧ Below base w w1 := fun v1 w1 h1 hg =>
    ⟨by simpa [OwnK] using h1, (Below.refl _ _).grown hg hbase (fun k hk => (HO.out.lt k (by cases A <;> (simp [Value.ownBlock] at hk ⊢; try exact hk))).1)⟩
  have FIN := hide fin
  clear fin
  rcases hcase with ⟨rfl, rfl⟩ | ⟨g0, rfl⟩
  · go_enter Tryd.func39, Tryd.ntmps39
    go_wp2_with (at_builtin; refine wpList_append_rd _ rfl _ _ 22 rfl base 23 i0 _ 1 8 Tryd.underlying22 hi hz0 hz1 hz2 rfl (by decide) _ 0 [] rfl HO.out (some ⟨g, 0, none⟩) 1 1 [.int .u64 x] rfl rfl HX.out (kone [x]) (by unfold maxLen; omega) (by omega) hbase ?_; intro v1 w1 h1 hg _; have H1 := hide (FIN.out v1 w1 h1 hg); clear h1 hg)
    go_ret
    exact ⟨_, rfl, H1.out⟩
  · cases c with
    | zero =>
      go_enter Tryd.func39, Tryd.ntmps39
      go_wp2_with (at_builtin; refine wpList_append_rd _ rfl _ _ 22 rfl base 23 i0 _ 1 8 Tryd.underlying22 hi hz0 hz1 hz2 rfl (by decide) _ 0 [] rfl HO.out (some ⟨g, 0, none⟩) 1 1 [.int .u64 x] rfl rfl HX.out (kone [x]) (by unfold maxLen; omega) (by omega) hbase ?_; intro v1 w1 h1 hg _; have H1 := hide (FIN.out v1 w1 h1 hg); clear h1 hg)
      go_ret
      exact ⟨_, rfl, H1.out⟩
    | succ c =>
      have p0 : ¬ c + 1 = 0 := by omega
      go_enter Tryd.func39, Tryd.ntmps39
      go_wp2_with (at_builtin; refine wpList_append_rd _ rfl _ _ 22 rfl base 23 i0 _ 1 8 Tryd.underlying22 hi hz0 hz1 hz2 rfl (by decide) _ 0 [] rfl HO.out (some ⟨g, 0, none⟩) 1 1 [.int .u64 x] rfl rfl HX.out (kone [x]) (by unfold maxLen; omega) (by omega) hbase ?_; intro v1 w1 h1 hg _; have H1 := hide (FIN.out v1 w1 h1 hg); clear h1 hg)
      go_ret
      exact ⟨_, rfl, H1.out⟩
set_option maxHeartbeats 2000000 in
theorem insertK_grow (A : Option Addr) (l : List Int) (x : Int) (g base : Nat) (w : World) (ho : OwnK .u64 23 w base (.slice A l.length l.length) l) (hbase : base ≤ w.heap.size)
    (hil : 0 < l.length) (hl : l.length < 100000) (hx : Blk w g 23 #[.int .u64 x]) :
    Calls Tryd.prog 39 #[.slice A l.length l.length, .int .i64 0, .slice (some ⟨g, 0, none⟩) 1 1] w
      fun e w' => ∃ v, e = .returned v ∧ OwnK .u64 23 w' base v (x :: l) ∧ Below base w w' := by
  obtain ⟨i0, hi, hz0, hz1, hz2⟩ := info_parts infoU
  have hne : ((0 : Int) == (l.length : Int)) = false := by simp; omega
  have hw1 : IntKind.i64.wrap 1 = 1 := IntWalk.i64_in _ (by omega)
  have hw3 : (1 : Int) ≤ (l.length : Int) + 1 := by omega
  have hw4 : (0 : Int) ≤ (l.length : Int) + 1 := by omega
  have hnl : ¬ l.length = 0 := by omega
  obtain ⟨g0, rfl, hg0⟩ : ∃ g0, A = some ⟨g0, 0, none⟩ ∧ base ≤ g0 := by
    rcases ho.2 with ⟨_, h⟩ | ⟨g0, _, _, h, hb, _⟩
    · omega
    · injection h with h _ _; exact ⟨g0, h, hb⟩
  have HS := hide ho.rd
  have HX := hide (show KS .u64 w (some ⟨g, 0, none⟩) [x] from Rd.of_blk hx)
  clear ho hx
  go_enter Tryd.func39, Tryd.ntmps39
  go_upto_region 11 with (first
    | (at_builtin; refine wpList_append_zeros rfl _ _ 22 3 rfl 23 .i64 i0 _ 1 8 Tryd.underlying22 Tryd.underlying3 hi hz0 hz1 hz2 rfl (some ⟨g0, 0, none⟩) 0 l.length (l.length + 1) ((l.length : Int) + 1) rfl rfl (by omega) [] rfl (Rd.nil _ _) (l.length + 1) (by omega) (by omega) (by omega) (by omega) (by omega) (by omega) ?_; intro cells cap w1 k1 k2 k3 k4 k5 k6 k7; have hci : ¬ cap = 0 := (by omega); have hci1 : ¬ cap = 1 := (by omega); have HK := hide k3; have HK7 := hide k7; have K5 := hide k5; have K6 := hide k6; clear k3 k4 k5 k6 k7)
    | (with_reducible refine wpList_copyN rfl (.tmp 43) (.tmp 44) 22 22 rfl 23 1 Tryd.underlying22 (by kernel_rfl) _ _ _ _ _ _ rfl rfl w.heap.size 0 cells 23 K5.out [.int .u64 x] ?_ ?_ ?_ ?_ ?_ ?_))
  · simp only [List.length_cons, List.length_nil]; rw [show Nat.min 1 (l.length + 1) = 1 from Nat.min_eq_left (by omega)]
  · exact HX.out.below (Below.of_grown K6.out) (Nat.le_refl _)
  · rw [HK.out]; simp only [List.length_cons, List.length_nil]; omega
  · exact kone [x]
  intro w2 q1 q2 q3
  have HQ3 := hide q3
  have HQ1 := hide q1
  have HQ2 := hide q2
  clear q1 q2 q3
  go_upto_region 11 with fail
  have b2 : Below w.heap.size w w2 := (Below.of_grown K6.out).trans ((Below.refl _ _).grown HQ2.out (by have := HK7.out; omega) (fun k hk => by cases hk; exact Nat.le_refl _))
  have HB2 := hide b2
  clear b2
  have HC := hide (show cells.toList.length = cap by rw [Array.length_toList, HK.out, Nat.mul_one])
  have HZ := hide (show cells.size = cap by rw [HK.out, Nat.mul_one])
  have HS1 := hide (show (splice cells.toList 0 [.int .u64 x]).length = cap by rw [length_splice _ _ _ (by have := HC.out; have := HZ.out; simp; omega), HC.out])
  have F1 := hide (show (l.map (Value.int .u64)).length = Nat.min l.length l.length * 1 by simp)
  have F2 := hide (show Rd w2.drew (some ⟨g0, 0, none⟩) (l.map (Value.int .u64)) from Rd.below (HS.out.then_ HB2.out) (Below.refl _ _).drew (Nat.le_refl _))
  have F3 := hide (show 1 + (l.map (Value.int .u64)).length ≤ (splice cells.toList 0 [.int .u64 x]).toArray.size by rw [List.size_toArray, HS1.out, List.length_map]; omega)
  go_region_held3 (fun _ => True) (trivial) ((refine step_copyN rfl (.tmp 50) (.tmp 53) 22 22 rfl 23 1 Tryd.underlying22 (by kernel_rfl) _ _ _ _ _ _ rfl rfl w.heap.size 1 (splice cells.toList 0 [.int .u64 x]).toArray 23 HQ1.out.drew (l.map (Value.int .u64)) F1.out (fun _ => by simp) F2.out F3.out (kone _) ?_; intro w3 r1 r2 r3))
  go_wp2
  go_ret
  have b3 : Below w.heap.size w w3 := HB2.out.drew.trans ((Below.refl _ _).grown r2 HB2.out.size (fun k hk => by cases hk; exact Nat.le_refl _))
  refine ⟨_, rfl, ⟨by simp, .inr ⟨w.heap.size, cap, _, rfl, hbase, r1, by simpa using k1, k2, ?_, ?_⟩⟩, b3.mono hbase⟩
  · rw [List.size_toArray, length_splice _ _ _ (by show 1 + (l.map (Value.int .u64)).length ≤ (splice cells.toList 0 [.int .u64 x]).length; rw [HS1.out, List.length_map]; omega)]
    show (splice cells.toList 0 [.int .u64 x]).length = cap * 1
    rw [HS1.out, Nat.mul_one]
  · have := splice_two (C := cells.toList) (P := []) (X := [.int .u64 x]) (R := l.map (Value.int .u64)) (p := 0) (m := 1) rfl rfl rfl (by have := HC.out; have := HZ.out; simp; omega)
    simp only [Nat.zero_add, List.length_map, List.nil_append] at this
    rw [List.length_cons, Nat.mul_one, Nat.add_comm l.length 1]
    exact this
set_option maxHeartbeats 2000000 in
theorem insertK_room (A : Option Addr) (l : List Int) (c : Nat) (x : Int) (g base : Nat) (w : World) (ho : OwnK .u64 23 w base (.slice A l.length c) l) (hbase : base ≤ w.heap.size)
    (hil : 0 < l.length) (hl : l.length < 100000) (hc : l.length + 1 ≤ c) (hx : Blk w g 23 #[.int .u64 x]) (hgo : ∀ a, A = some a → a.block ≠ g) :
    Calls Tryd.prog 39 #[.slice A l.length c, .int .i64 0, .slice (some ⟨g, 0, none⟩) 1 1] w
      fun e w' => ∃ v, e = .returned v ∧ OwnK .u64 23 w' base v (x :: l) ∧ Below base w w' := by
  have hne : ((0 : Int) == (l.length : Int)) = false := by simp; omega
  have hw1 : IntKind.i64.wrap 1 = 1 := IntWalk.i64_in _ (by omega)
  have hw3 : (1 : Int) ≤ (l.length : Int) + 1 := by omega
  have hw4 : (0 : Int) ≤ (l.length : Int) + 1 := by omega
  obtain ⟨g0, cur, rfl, hg0, hblk, hcm, hcs, htake⟩ : ∃ g0 cur, A = some ⟨g0, 0, none⟩ ∧ base ≤ g0 ∧ Blk w g0 23 cur ∧ c ≤ maxLen ∧ cur.size = c * 1 ∧ cur.toList.take (l.length * 1) = l.map (Value.int .u64) := by
    rcases ho.2 with ⟨_, h⟩ | ⟨g0, cap, cur, h, hb, hh, hnc, hcm, hcs, ht⟩
    · omega
    · injection h with h1 _ h3; subst h3; exact ⟨g0, cur, h1, hb, hh, hcm, hcs, ht⟩
  have hgg : g0 ≠ g := fun e => hgo _ rfl e
  have ov := fun (n : Nat) (m o : Nat) => (ov_call #[.slice (some ⟨g, 0, none⟩) 1 1, .slice (some ⟨g0, o, none⟩) n m] w).trans (by rw [run_overlaps (P := Tryd.prog) w 22 22 #[4] 23 1 Tryd.underlying22 (by kernel_rfl) g g0 0 o 1 n 1 m _ _ _ _ hx hblk (Ne.symm hgg)])
  unfold maxLen at hcm
  have hci : ¬ c = 0 := by omega
  have hci1 : ¬ c = 1 := by omega
  have HS := hide ho.rd
  have HX := hide hx
  have HBK := hide hblk
  clear ho hx hgo
  go_enter Tryd.func39, Tryd.ntmps39
  have HT := hide htake
  have HC := hide (show cur.toList.length = c by rw [Array.length_toList, hcs, Nat.mul_one])
  have HZ := hide (show cur.size = c by rw [hcs, Nat.mul_one])
  clear htake hcs hblk
  go_upto_region 15 with fail
  have F1 := hide (show (l.map (Value.int .u64)).length = Nat.min l.length l.length * 1 by simp)
  have F2 := hide (show Rd w.drew (some ⟨g0, 0, none⟩) (l.map (Value.int .u64)) from Rd.below HS.out (Below.refl _ _).drew (Nat.le_refl _))
  have F3 := hide (show 1 + (l.map (Value.int .u64)).length ≤ cur.size by rw [← Array.length_toList, HC.out, List.length_map]; omega)
  go_region_held3 (fun _ => True) (trivial) ((refine step_copyN rfl (.tmp 73) (.tmp 76) 22 22 rfl 23 1 Tryd.underlying22 (by kernel_rfl) _ _ _ _ _ _ rfl rfl g0 1 cur 23 HBK.out.drew (l.map (Value.int .u64)) (by first | exact F1.out | (simp; done) | (simp [Nat.min_def]; done) | (simp [Nat.min_def]; omega)) (fun _ => by simp) F2.out F3.out (kone _) ?_; intro w3 r1 r2 r3))
  have hxw : Blk w3 g 23 #[.int .u64 x] := (r2.block g (by simpa using HX.out.lt) (fun e => hgg (by injection e with e; exact e.symm))).trans HX.out
  have R3 := hide r3
  have R2 := hide r2
  have R1 := hide r1
  have HXW := hide (show KS .u64 w3 (some ⟨g, 0, none⟩) [x] from Rd.of_blk hxw)
  have HL1 := hide (show (splice cur.toList 1 (l.map (Value.int .u64))).length = c by rw [length_splice _ _ _ (by have := HC.out; have := HZ.out; simp; omega), HC.out])
  clear r1 r2 r3 hxw ov
  go_upto_region 17 with (with_reducible refine wpList_copyN rfl (.tmp 80) (.tmp 81) 22 22 rfl 23 1 Tryd.underlying22 (by kernel_rfl) _ _ _ _ _ _ rfl rfl g0 0 _ 23 R1.out [.int .u64 x] ?_ ?_ ?_ ?_ ?_ ?_)
  · simp only [List.length_cons, List.length_nil]; rw [show Nat.min 1 (l.length + 1) = 1 from Nat.min_eq_left (by omega)]
  · exact HXW.out
  · rw [List.size_toArray, HL1.out]; simp only [List.length_cons, List.length_nil]; omega
  · exact kone [x]
  intro w4 q1 q2 q3
  go_wp2
  go_ret
  have b4 : Below base w w4 := (((Below.refl base w).drew).grown R2.out (by simpa using hbase) (fun k hk => by cases hk; exact hg0)).grown q2 (by rw [R3.out]; simpa using hbase) (fun k hk => by cases hk; exact hg0)
  refine ⟨_, rfl, ⟨by simp, .inr ⟨g0, c, _, rfl, hg0, q1, by simpa using hc, by unfold maxLen; omega, ?_, ?_⟩⟩, b4⟩
  · rw [List.size_toArray, length_splice _ _ _ (by show 0 + 1 ≤ (splice cur.toList 1 (l.map (Value.int .u64))).length; rw [HL1.out]; omega)]
    rw [Nat.mul_one]; exact HL1.out
  · have := splice_two' (C := cur.toList) (P := []) (X := [.int .u64 x]) (R := l.map (Value.int .u64)) (p := 0) (m := 1) rfl rfl rfl (by have := HC.out; have := HZ.out; simp; omega)
    simp only [Nat.zero_add, List.length_map, List.nil_append] at this
    rw [List.length_cons, Nat.mul_one, Nat.add_comm l.length 1]
    exact this
/-- slices.Insert of one integer ahead of the others -/
theorem insertK_any (A : Option Addr) (c : Nat) (l : List Int) (x : Int) (g base : Nat) (w : World) (ho : OwnK .u64 23 w base (.slice A l.length c) l) (hbase : base ≤ w.heap.size)
    (hl : l.length < 100000) (hx : Blk w g 23 #[.int .u64 x]) (hgo : ∀ a, A = some a → a.block ≠ g) :
    Calls Tryd.prog 39 #[.slice A l.length c, .int .i64 0, .slice (some ⟨g, 0, none⟩) 1 1] w
      fun e w' => ∃ v, e = .returned v ∧ OwnK .u64 23 w' base v (x :: l) ∧ Below base w w' := by
  by_cases h0 : 0 < l.length
  · obtain ⟨_, c', hv, hlc, _, _⟩ := ho.form
    injection hv with e1 e2 e3
    subst e1 e3
    by_cases hc : l.length + 1 ≤ c
    · exact insertK_room A l c x g base w ho hbase h0 hl hc hx hgo
    · obtain rfl : c = l.length := by omega
      exact insertK_grow A l x g base w ho hbase h0 hl hx
  · obtain rfl : l = [] := List.eq_nil_of_length_eq_zero (by omega)
    exact insertK_end A c x g base w ho hbase hx
end Go.Proofs.YtijnjgjpmgmifaaDoor
