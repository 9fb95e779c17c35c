/-
  The walks of slices.Clone at reads and at writes; commit.copied.
-/
import Derived.Test.YtficjpfhakggmaaRf34
namespace Go.Proofs.Ytficjpfhakggmaa
open Go.RowKit
theorem infoSn : (Try.prog.info? 65).map (fun i => (i.zero, i.size, i.bytes)) = some (some (.agg #[.int .i64 0, .int .i64 0]), 2, 16) := by kernel_rfl
theorem infoWr : (Try.prog.info? 60).map (fun i => (i.zero, i.size, i.bytes)) = some (some (.agg #[.int .i64 0, .int .i64 0, .bool false]), 3, 24) := by kernel_rfl
theorem infoTx : (Try.prog.info? 29).map (fun i => (i.zero, i.size, i.bytes)) = some (some (.agg #[.int .i64 0, .int .i64 0, .slice none 0 0, .slice none 0 0]), 4, 64) := by kernel_rfl
theorem sn_one (l : List Sn) : ∀ u ∈ l.flatMap Sn.cells, u.oneCell' = true := by
  intro u hu
  obtain ⟨v, _, hv⟩ := List.mem_flatMap.1 hu
  simp only [Sn.cells, List.mem_cons, List.not_mem_nil, or_false] at hv
  rcases hv with rfl | rfl <;> rfl
theorem wr_one (l : List Wr) : ∀ u ∈ l.flatMap Wr.cells, u.oneCell' = true := by
  intro u hu
  obtain ⟨v, _, hv⟩ := List.mem_flatMap.1 hu
  simp only [Wr.cells, List.mem_cons, List.not_mem_nil, or_false] at hv
  rcases hv with rfl | rfl | rfl <;> rfl
theorem tx_one (l : List TxV) : ∀ u ∈ l.flatMap TxV.cells, u.oneCell' = true := by
  intro u hu
  obtain ⟨v, _, hv⟩ := List.mem_flatMap.1 hu
  simp only [TxV.cells, List.mem_cons, List.not_mem_nil, or_false] at hv
  rcases hv with rfl | rfl | rfl | rfl <;> rfl
theorem own_below {w w' : World} {base : Nat} {e : TypeId} {size n : Nat} {v : Value} {xs : List Value} (h : w.ownsRow base e size v n xs) (hb : Below w.heap.size w w') : w'.ownsRow base e size v n xs := by
  refine ⟨h.1, ?_⟩
  rcases h.2 with h2 | ⟨g, cap, cur, hv, hg, hh, r⟩
  · exact .inl h2
  · exact .inr ⟨g, cap, cur, hv, hg, (hb.block g (Array.getElem?_eq_some_iff.1 hh).1).trans hh, r⟩
set_option maxHeartbeats 1000000 in
theorem cloneSn_any (A : Option Addr) (c : Nat) (l : List Sn) (w : World) (hn : l.length ≤ 4000) (h : RS Sn.cells w A l) :
    Calls Try.prog 84 #[.slice A l.length c] w fun e w' => ∃ v, e = .returned v ∧ w'.ownsRow w.heap.size 65 2 v l.length (l.flatMap Sn.cells) ∧ Below w.heap.size w w' := by
  obtain ⟨i0, hi, hz0, hz1, hz2⟩ := info_parts infoSn
  have hne := fun w' => Lib.run_eql_slice_nil (P := Try.prog) w' 26 65 A l.length c 0 0 Try.underlying26
  cases hA : A.isNone
  · rw [hA] at hne
    go_enter Try.func84, Try.ntmps84
    go_wp2_with (at_builtin; refine wpList_append_rd _ rfl _ _ 26 rfl w.heap.size 65 i0 _ 2 16 Try.underlying26 hi hz0 hz1 hz2 rfl (by decide) _ 0 [] rfl (World.ownsRow_made w #[] 0 (Nat.le_refl _) (by simp [maxLen]) rfl) A l.length c (l.flatMap Sn.cells) rfl (by rw [flat_len Sn.cells 2 (fun _ => rfl)]) (h.alloc _) (sn_one l) ?_ ?_ ?_ ?_)
    · simp only [maxLen]; omega
    · omega
    · simp
    · intro v1 w1 ho hg _
      go_wp2
      go_ret
      refine ⟨v1, rfl, by simpa using ho, ((Below.refl _ _).alloc (Nat.le_refl _) _).grown hg (by simp) (fun k hk => by simp [Value.ownBlock] at hk; omega)⟩
  · rw [hA] at hne
    obtain rfl : A = none := by simpa using hA
    have hl : l = [] := by
      cases l with
      | nil => rfl
      | cons x l => obtain ⟨b, o, h1, _⟩ := SnS.at_ h (k := 0) (by simp); cases h1
    subst hl
    simp only [List.length_nil] at hne
    go_enter Try.func84, Try.ntmps84
    go_wp2
    go_ret
    exact ⟨.slice none 0 0, rfl, World.ownsRow_nil _ _ _ _, Below.refl _ _⟩
set_option maxHeartbeats 1000000 in
theorem cloneWr_any (A : Option Addr) (c : Nat) (l : List Wr) (w : World) (hn : l.length ≤ 4000) (h : RS Wr.cells w A l) :
    Calls Try.prog 85 #[.slice A l.length c] w fun e w' => ∃ v, e = .returned v ∧ w'.ownsRow w.heap.size 60 3 v l.length (l.flatMap Wr.cells) ∧ Below w.heap.size w w' := by
  obtain ⟨i0, hi, hz0, hz1, hz2⟩ := info_parts infoWr
  have hne := fun w' => Lib.run_eql_slice_nil (P := Try.prog) w' 27 60 A l.length c 0 0 Try.underlying27
  cases hA : A.isNone
  · rw [hA] at hne
    go_enter Try.func85, Try.ntmps85
    go_wp2_with (at_builtin; refine wpList_append_rd _ rfl _ _ 27 rfl w.heap.size 60 i0 _ 3 24 Try.underlying27 hi hz0 hz1 hz2 rfl (by decide) _ 0 [] rfl (World.ownsRow_made w #[] 0 (Nat.le_refl _) (by simp [maxLen]) rfl) A l.length c (l.flatMap Wr.cells) rfl (by rw [flat_len Wr.cells 3 (fun _ => rfl)]) (h.alloc _) (wr_one l) ?_ ?_ ?_ ?_)
    · simp only [maxLen]; omega
    · omega
    · simp
    · intro v1 w1 ho hg _
      go_wp2
      go_ret
      refine ⟨v1, rfl, by simpa using ho, ((Below.refl _ _).alloc (Nat.le_refl _) _).grown hg (by simp) (fun k hk => by simp [Value.ownBlock] at hk; omega)⟩
  · rw [hA] at hne
    obtain rfl : A = none := by simpa using hA
    have hl : l = [] := by
      cases l with
      | nil => rfl
      | cons x l => obtain ⟨b, o, h1, _⟩ := WrS.at_ h (k := 0) (by simp); cases h1
    subst hl
    simp only [List.length_nil] at hne
    go_enter Try.func85, Try.ntmps85
    go_wp2
    go_ret
    exact ⟨.slice none 0 0, rfl, World.ownsRow_nil _ _ _ _, Below.refl _ _⟩
theorem box23 {w : World} {g : Nat} {t : TypeId} {a b c d : Value} (h : Blk w g t #[a, b, c, d]) (x y : Value) : Blk ((w.setCell ⟨g, 2, none⟩ x).setCell ⟨g, 3, none⟩ y) g t #[a, b, x, y] := (h.set_ 2 x).set_ 3 y
theorem own_base {w : World} {b b' : Nat} {e : TypeId} {size n : Nat} {v : Value} {xs : List Value} (h : w.ownsRow b e size v n xs) (hb : b' ≤ b) : w.ownsRow b' e size v n xs := by
  refine ⟨h.1, ?_⟩
  rcases h.2 with h2 | ⟨g, cap, cur, hv, hg, r⟩
  · exact .inl h2
  · exact .inr ⟨g, cap, cur, hv, Nat.le_trans hb hg, r⟩
theorem own_set4 {w : World} {b g : Nat} {e : TypeId} {size n : Nat} {v : Value} {xs : List Value} (h : w.ownsRow b e size v n xs) (hg : g < b) (p q r s : Value) : ((((w.setCell ⟨g, 0, none⟩ p).setCell ⟨g, 1, none⟩ q).setCell ⟨g, 2, none⟩ r).setCell ⟨g, 3, none⟩ s).ownsRow b e size v n xs :=
  ownsRow_setCell_below (ownsRow_setCell_below (ownsRow_setCell_below (ownsRow_setCell_below h hg p) hg q) hg r) hg s
def TxV.agg (v : TxV) : Value := .agg #[.int .i64 v.t.id, .int .i64 v.t.ts, .slice v.ra v.t.reads.length v.rc, .slice v.wa v.t.writes.length v.wc]
set_option maxHeartbeats 8000000 in
theorem copied_any (v : TxV) (w : World) (hs : v.t.reads.length ≤ 100 ∧ v.t.writes.length ≤ 100) (h : TxW w v) :
    Calls Try.prog 49 #[.agg #[.int .i64 v.t.id, .int .i64 v.t.ts, .slice v.ra v.t.reads.length v.rc, .slice v.wa v.t.writes.length v.wc]] w
      fun e w' => ∃ v', e = .returned (TxV.agg v') ∧ Below w.heap.size w w' ∧ v'.t = v.t ∧ TxW w' v' ∧ (∀ a, v'.ra = some a → w.heap.size ≤ a.block ∧ a.block < w'.heap.size) ∧ (∀ a, v'.wa = some a → w.heap.size ≤ a.block ∧ a.block < w'.heap.size) := by
  obtain ⟨⟨id, ts, rd, wt⟩, ra, rc, wa, wc⟩ := v
  dsimp only at hs h ⊢
  have HR := hide h.r
  have HW := hide h.s
  dsimp only at HR HW
  obtain ⟨hr, hw⟩ := hs
  clear h
  have X1 := hide fun W (s : RS Sn.cells W ra rd) => cloneSn_any ra rc rd W (by omega) s
  have X2 := hide fun W (s : RS Wr.cells W wa wt) => cloneWr_any wa wc wt W (by omega) s
  go_enter Try.func49, Try.ntmps49
  go_upto_region 1 with fail
  obtain ⟨W, hW⟩ : ∃ W, (w.alloc (.cells #[.int .i64 id, .int .i64 ts, .slice ra rd.length rc, .slice wa wt.length wc] 29)).alloc (.cells #[.int .i64 0, .int .i64 0, .slice none 0 0, .slice none 0 0] 29) = W := ⟨_, rfl⟩
  have P := (Blk.new w 29 #[.int .i64 id, .int .i64 ts, .slice ra rd.length rc, .slice wa wt.length wc]).alloc (.cells #[.int .i64 0, .int .i64 0, .slice none 0 0, .slice none 0 0] 29)
  have Q := Blk.new (w.alloc (.cells #[.int .i64 id, .int .i64 ts, .slice ra rd.length rc, .slice wa wt.length wc] 29)) 29 #[.int .i64 0, .int .i64 0, .slice none 0 0, .slice none 0 0]
  have hb0 : Below w.heap.size w W := by rw [← hW]; exact ((Below.refl _ _).alloc (Nat.le_refl _) _).alloc (by simp) _
  have hs0 : W.heap.size = w.heap.size + 2 := by rw [← hW]; simp
  rw [World.size_alloc] at Q
  rw [hW] at P Q ⊢
  clear hW
  have R1 := hide (RS.below HR.out hb0 (Nat.le_refl _))
  have R2 := hide (RS.below HW.out hb0 (Nat.le_refl _))
  have PH := hide P
  have QH := hide Q
  have B0 := hide hb0
  clear HR HW hb0 Q
  go_cut [5] (fun _ wx => ∃ A5 c5 A6 c6, Blk wx w.heap.size 29 #[.int .i64 id, .int .i64 ts, .slice A5 rd.length c5, .slice A6 wt.length c6] ∧ wx.ownsRow W.heap.size 65 2 (.slice A5 rd.length c5) rd.length (rd.flatMap Sn.cells) ∧ wx.ownsRow W.heap.size 60 3 (.slice A6 wt.length c6) wt.length (wt.flatMap Wr.cells) ∧ (rd.length ≤ c5 ∧ c5 ≤ maxLen) ∧ (wt.length ≤ c6 ∧ c6 ≤ maxLen) ∧ Blk wx (w.heap.size + 1) 29 #[.int .i64 0, .int .i64 0, .slice none 0 0, .slice none 0 0] ∧ Below w.heap.size w wx)
  case first =>
    have p2 : W.cell? ⟨w.heap.size, 2, none⟩ = some (.slice ra rd.length rc) := P.cell 2
    have p3 : W.cell? ⟨w.heap.size, 3, none⟩ = some (.slice wa wt.length wc) := P.cell 3
    clear P
    go_region_law ((first
      | (go_simp; go_at_call 84; refine (X1.out _ (RS.below R1.out hb6.out (Nat.le_refl _))).mono ?_; rintro e w5 ⟨v5, rfl, o5, b5⟩; obtain ⟨A5, c5, rfl, l5, m5, _⟩ := own_form o5; have o6 := own_below o6 b5; have hb6 := hide (hb6.out.trans (b5.mono (by have := hb6.out.size; omega))); have p5 := b5.size; clear b5; have PB := hide (PH.out.below hb6.out (by omega)); have k2 : w5.cell? ⟨w.heap.size, 2, none⟩ = some (.slice ra rd.length rc) := PB.out.cell 2; have k3 : w5.cell? ⟨w.heap.size, 3, none⟩ = some (.slice wa wt.length wc) := PB.out.cell 3; have f2 := PB.out.frozen 2; have f3 := PB.out.frozen 3; have QB := hide (QH.out.below hb6.out (by omega)); have BB := hide (B0.out.trans (hb6.out.mono (by omega))))
      | (go_simp; go_at_call 85; refine (X2.out _ (RS.below R2.out hb5.out (Nat.le_refl _))).mono ?_; rintro e w6 ⟨v6, rfl, o6, b6⟩; obtain ⟨A6, c6, rfl, l6, m6, _⟩ := own_form o6; have o5 := own_below o5 b6; have hb5 := hide (hb5.out.trans (b6.mono (by have := hb5.out.size; omega))); have p6 := b6.size; clear b6; have PB := hide (PH.out.below hb5.out (by omega)); have k2 : w6.cell? ⟨w.heap.size, 2, none⟩ = some (.slice ra rd.length rc) := PB.out.cell 2; have k3 : w6.cell? ⟨w.heap.size, 3, none⟩ = some (.slice wa wt.length wc) := PB.out.cell 3; have f2 := PB.out.frozen 2; have f3 := PB.out.frozen 3; have QB := hide (QH.out.below hb5.out (by omega)); have BB := hide (B0.out.trans (hb5.out.mono (by omega))))
      | (go_simp; go_at_call 84; refine (X1.out _ (RS.below R1.out (Below.refl _ _).drew (Nat.le_refl _))).mono ?_; rintro e w5 ⟨v5, rfl, o5, b5⟩; obtain ⟨A5, c5, rfl, l5, m5, _⟩ := own_form o5; have q3 := (b5.cell (p := ⟨w.heap.size, 3, none⟩) (by simp; omega)).trans p3; have p5 := b5.size; have hb5 := hide ((Below.refl W.heap.size W).drew.trans b5); clear b5)
      | (go_simp; go_at_call 85; refine (X2.out _ (RS.below R2.out (Below.refl _ _).drew (Nat.le_refl _))).mono ?_; rintro e w6 ⟨v6, rfl, o6, b6⟩; obtain ⟨A6, c6, rfl, l6, m6, _⟩ := own_form o6; have q2 := (b6.cell (p := ⟨w.heap.size, 2, none⟩) (by simp; omega)).trans p2; have p6 := b6.size; have hb6 := hide ((Below.refl W.heap.size W).drew.trans b6); clear b6)))
    all_goals
      have hd : W.drew.heap.size = W.heap.size := rfl
      have P9 := hide (box23 PB.out (.slice A5 rd.length c5) (.slice A6 wt.length c6))
      have O5 := hide (ownsRow_setCell_below (ownsRow_setCell_below o5 (a := ⟨w.heap.size, 2, none⟩) (by show w.heap.size < W.heap.size; omega) (.slice A5 rd.length c5)) (a := ⟨w.heap.size, 3, none⟩) (by show w.heap.size < W.heap.size; omega) (.slice A6 wt.length c6))
      have O6 := hide (ownsRow_setCell_below (ownsRow_setCell_below o6 (a := ⟨w.heap.size, 2, none⟩) (by show w.heap.size < w5.heap.size; omega) (.slice A5 rd.length c5)) (a := ⟨w.heap.size, 3, none⟩) (by show w.heap.size < w5.heap.size; omega) (.slice A6 wt.length c6))
      have Q9 := hide ((QB.out.far (p := ⟨w.heap.size, 2, none⟩) (by show w.heap.size + 1 ≠ w.heap.size; omega) (.slice A5 rd.length c5)).far (p := ⟨w.heap.size, 3, none⟩) (by show w.heap.size + 1 ≠ w.heap.size; omega) (.slice A6 wt.length c6))
      have B9 := hide ((BB.out.setCell (p := ⟨w.heap.size, 2, none⟩) (Nat.le_refl _) (.slice A5 rd.length c5)).setCell (p := ⟨w.heap.size, 3, none⟩) (Nat.le_refl _) (.slice A6 wt.length c6))
      obtain ⟨W9, hW9⟩ : ∃ W9, (w6.setCell ⟨w.heap.size, 2, none⟩ (.slice A5 rd.length c5)).setCell ⟨w.heap.size, 3, none⟩ (.slice A6 wt.length c6) = W9 := ⟨_, rfl⟩
      rw [hW9] at P9 O5 O6 Q9 B9 ⊢
      go_wp2_with fail
      go_meet
      case rel => exact ⟨A5, c5, A6, c6, P9.out, O5.out, own_base O6.out (by omega), ⟨l5, m5⟩, ⟨l6, m6⟩, Q9.out, B9.out⟩
  case rest =>
    obtain ⟨A5, c5, A6, c6, pb, o5, o6, hl5, hl6, qb, bb⟩ := hcut
    rename World => wx
    have z0 : wx.cell? ⟨w.heap.size, 0, none⟩ = some (.int .i64 id) := pb.cell 0
    have z1 : wx.cell? ⟨w.heap.size, 1, none⟩ = some (.int .i64 ts) := pb.cell 1
    have z2 : wx.cell? ⟨w.heap.size, 2, none⟩ = some (.slice A5 rd.length c5) := pb.cell 2
    have z3 : wx.cell? ⟨w.heap.size, 3, none⟩ = some (.slice A6 wt.length c6) := pb.cell 3
    have y0 : wx.cell? ⟨w.heap.size + 1, 0, none⟩ = some (.int .i64 0) := qb.cell 0
    have y1 : wx.cell? ⟨w.heap.size + 1, 1, none⟩ = some (.int .i64 0) := qb.cell 1
    have y2 : wx.cell? ⟨w.heap.size + 1, 2, none⟩ = some (.slice none 0 0) := qb.cell 2
    have y3 : wx.cell? ⟨w.heap.size + 1, 3, none⟩ = some (.slice none 0 0) := qb.cell 3
    have e0 := qb.frozen 0
    have e1 := qb.frozen 1
    have e2 := qb.frozen 2
    have e3 := qb.frozen 3
    have O5 := hide o5
    have O6 := hide o6
    have QB := hide qb
    have BB := hide bb
    clear o5 o6 qb bb pb
    go_wp2
    have q5 := own_set4 (g := w.heap.size + 1) O5.out (by omega) (.int .i64 id) (.int .i64 ts) (.slice A5 rd.length c5) (.slice A6 wt.length c6)
    have q6 := own_set4 (g := w.heap.size + 1) O6.out (by omega) (.int .i64 id) (.int .i64 ts) (.slice A5 rd.length c5) (.slice A6 wt.length c6)
    refine bodyPost_ret (results_blk1 rfl _ _ (w.heap.size + 1) 29 _ _ rfl ((((QB.out.set_ 0 _).set_ 1 _).set_ 2 _).set_ 3 _) Try.underlying29 rfl (by kernel_rfl)) rfl ⟨⟨⟨id, ts, rd, wt⟩, A5, c5, A6, c6⟩, rfl, set4 BB.out (by omega), rfl, ⟨RS.of_own q5, RS.of_own q6, hl5.1, hl5.2, hl6.1, hl6.2⟩, ?_, ?_⟩
    · intro a ha
      have := q5.lt a.block (by dsimp only at ha; rw [ha]; rfl)
      exact ⟨by omega, this.2⟩
    · intro a ha
      have := q6.lt a.block (by dsimp only at ha; rw [ha]; rfl)
      exact ⟨by omega, this.2⟩
end Go.Proofs.Ytficjpfhakggmaa
