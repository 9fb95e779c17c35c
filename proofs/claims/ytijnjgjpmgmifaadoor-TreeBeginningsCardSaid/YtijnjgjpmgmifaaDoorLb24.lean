/-
  The walk of the law TreeBeginnings.
-/
import Derived.Test.YtijnjgjpmgmifaaDoorGd
namespace Go.Proofs.YtijnjgjpmgmifaaDoor
open Go.RowKit
def rrow (r0 r1 r2 : Int) (k : Nat) : Array Value := #[.int .u64 (if 0 < k then r0 else 0), .int .u64 (if 1 < k then r1 else 0), .int .u64 (if 2 < k then r2 else 0)]
set_option maxHeartbeats 16000000 in
set_option maxRecDepth 100000 in
theorem beginnings_walk (A : Option Addr) (c : Nat) (l : List Int) (m1 m2 m3 : Nat) (w : World) (hlc : l.length ≤ c) (hm1 : m1 < 256) (hm2 : m2 < 256) (hm3 : m3 < 256) (h : KS .u64 w A l) :
    Calls Tryd.prog 7 #[.slice A l.length c, .int .u8 m1, .int .u8 m2, .int .u8 m3] w fun e w' => e = .returned (.bool true) ∧ Below w.heap.size w w' := by
  have HH := hide head_any
  have BB := hide (Below.refl w.heap.size w)
  have HF := hide fun W => few_any A c l W
  cases hf : fewB l
  · rw [hf] at HF
    clear hf h
    go_enter Tryd.func7, Tryd.ntmps7
    go_wp2_with (first
      | (go_at_call 10; refine (HH.out _).mono ?_; rintro e w1 ⟨rfl, h1⟩; have BB := hide (thenB BB.out h1); clear h1)
      | (go_at_call 24; with_reducible refine (HF.out _).mono ?_; rintro e w2 ⟨rfl, rfl⟩))
    go_ret
    exact ⟨rfl, BB.out⟩
  · obtain ⟨h1, h2⟩ := fewB_iff.1 hf
    rw [hf] at HF
    have T := hide (AllK.one h)
    obtain ⟨b, o, rfl, hbl, hcell⟩ := h.at_ (i := 0) (by omega)
    obtain ⟨L, hL⟩ : ∃ L, L = l.length := ⟨_, rfl⟩
    have hmod : m1 % L < L := Nat.mod_lt _ (by omega)
    obtain ⟨j1, hj1⟩ : ∃ j, j = m1 % L := ⟨_, rfl⟩
    have e1 : (m1 : Int) % (L : Int) = (j1 : Int) := by rw [hj1]; rfl
    have e2 : Int.tmod (m1 : Int) (L : Int) = (j1 : Int) := by rw [Int.tmod_eq_emod_of_nonneg (by omega)]; exact e1
    obtain ⟨s1, hs1⟩ : ∃ k, k = 1 + j1 := ⟨_, rfl⟩
    have e3 : (1 : Int) + (j1 : Int) = (s1 : Int) := by omega
    have hmod2 : m2 % s1 < s1 := Nat.mod_lt _ (by omega)
    obtain ⟨j2, hj2⟩ : ∃ j, j = m2 % s1 := ⟨_, rfl⟩
    have e4 : (m2 : Int) % (s1 : Int) = (j2 : Int) := by rw [hj2]; rfl
    have e5 : Int.tmod (m2 : Int) (s1 : Int) = (j2 : Int) := by rw [Int.tmod_eq_emod_of_nonneg (by omega)]; exact e4
    obtain ⟨s0, hs0⟩ : ∃ k, k = 1 + j2 := ⟨_, rfl⟩
    have e6 : (1 : Int) + (j2 : Int) = (s0 : Int) := by omega
    have hmod3 : m3 % s0 < s0 := Nat.mod_lt _ (by omega)
    obtain ⟨j, hj⟩ : ∃ j, j = m3 % s0 := ⟨_, rfl⟩
    have e7 : (m3 : Int) % (s0 : Int) = (j : Int) := by rw [hj]; rfl
    have e8 : Int.tmod (m3 : Int) (s0 : Int) = (j : Int) := by rw [Int.tmod_eq_emod_of_nonneg (by omega)]; exact e7
    rw [← hj1] at hmod
    rw [← hj2] at hmod2
    rw [← hj] at hmod3
    have a1 : s1 ≤ L := by omega
    have a0 : s0 ≤ s1 := by omega
    have b0 : 1 ≤ s0 := by omega
    have hjl : j < l.length := by omega
    obtain ⟨cx, hcx⟩ : ∃ x, x = l[j] := ⟨_, rfl⟩
    have lt : ∀ z, z ≤ L → (l.take z).length = z := fun z hz => by simp; omega
    have hget : ∀ z (hz : j < z) (hzl : z ≤ L), (l.take z)[j]'(by rw [lt z hzl]; exact hz) = cx := fun z hz hzl => by rw [hcx, List.getElem_take]
    have C1 := hide fun (z : Nat) W (z1 : 1 ≤ z) (z2 : z ≤ L) s => Root_ok (some ⟨b, o, none⟩) c z (l.take z) W (lt z z2) z1 (by omega) (by omega) s
    have C2 := hide fun (z : Nat) W (z1 : j < z) (z2 : z ≤ L) s => Inc_ok (some ⟨b, o, none⟩) c z (l.take z) j W (lt z z2) z1 (by omega) (by omega) s
    have C3 := hide fun (z : Nat) (z1 : j < z) (z2 : z ≤ L) A' c' W s => (included_any (rootF (l.take z)) cx j z A' c' (inclF (l.take z) j) W (by have := inclF_le (l := l.take z) (i := j) (by rw [lt z z2]; omega); omega) s).mono (R' := fun e w' => e = .returned (.bool true) ∧ Below W.heap.size W w') fun e w' ⟨he, hb⟩ => ⟨by
      have q := @inclS_law (l.take z) j cx (rootF (l.take z)) (by rw [lt z z2]; exact z1) (by rw [lt z z2]; omega)
      rw [lt z z2] at q
      rw [he, q, ← hget z z1 z2, set_self, decide_eq_true rfl], hb⟩
    have C4 := hide fun (z y : Nat) W (y1 : 1 ≤ y) (y2 : y ≤ z) (z2 : z ≤ L) s => Ext_ok (some ⟨b, o, none⟩) c z (l.take z) y W (lt z z2) y1 y2 (by omega) (by omega) s
    have C5 := hide fun (z y : Nat) (y1 : 1 ≤ y) (y2 : y ≤ z) (z2 : z ≤ L) A' c' W hc s => (Extended_any (rootF (l.take y)) (rootF (l.take z)) y z A' c' (extF (l.take z) y true) W (by have := extF_le (l := l.take z) (m := y) (mark := true) (by rw [lt z z2]; omega); omega) hc s).mono (R' := fun e w' => e = .returned (.bool true) ∧ Below W.heap.size W w') fun e w' ⟨he, hb⟩ => ⟨by
      have q := @growS_law (l.take z) y y1 (by rw [lt z z2]; exact y2) (by rw [lt z z2]; omega)
      rw [lt z z2, List.take_take, Nat.min_eq_left y2] at q
      rw [he, q], hb⟩
    have PC := hide (fun W z (s : AllK W [(some ⟨b, o, none⟩, l)]) => (s.get (A := some ⟨b, o, none⟩) (l := l) (by simp)).pre z)
    have CX := hide (fun (W : World) (s : AllK W [(some ⟨b, o, none⟩, l)]) => (show W.cell? ⟨b, o + j, none⟩ = some (.int .u64 cx) by
      obtain ⟨b', o', hA, hbl, hc⟩ := (s.get (A := some ⟨b, o, none⟩) (l := l) (by simp)).at_ (i := j) hjl
      injection hA with hA; injection hA with hA1 hA2; subst hA1; subst hA2
      rw [hcx]; exact hc j hjl))
    obtain ⟨rf, hrf⟩ : ∃ rf : Nat → Int, rf = fun z => rootF (l.take z) := ⟨_, rfl⟩
    have C1 := hide fun z W z1 z2 s => (show rootF (l.take z) = rf z by rw [hrf]) ▸ C1.out z W z1 z2 s
    have C3 := hide fun z z1 z2 A' c' W s => (show rootF (l.take z) = rf z by rw [hrf]) ▸ C3.out z z1 z2 A' c' W s
    have C5 := hide fun z y y1 y2 z2 A' c' W hc s => (show rootF (l.take z) = rf z by rw [hrf]) ▸ (show rootF (l.take y) = rf y by rw [hrf]) ▸ C5.out z y y1 y2 z2 A' c' W hc s
    rw [← hL] at hlc HF ⊢
    have p0 : (1 : Int) ≤ L := by omega
    have p1 : (L : Int) ≤ 60 := by omega
    have p2 : (1 : Int) ≤ s1 := by omega
    have p3 : (1 : Int) ≤ s0 := by omega
    have p4 : (s1 : Int) ≤ L := by omega
    have p5 : (s0 : Int) ≤ s1 := by omega
    have p6 : (s1 : Int) ≤ c := by omega
    have p7 : (s0 : Int) ≤ c := by omega
    have p7' : (L : Int) ≤ c := by omega
    have p8 : (j : Int) < s0 := by omega
    have p9 : (j : Int) < L := by omega
    have p10 : (0 : Int) ≤ j := by omega
    have p11 : (m1 : Int) < 256 := by omega
    have p12 : (m2 : Int) < 256 := by omega
    have p13 : (m3 : Int) < 256 := by omega
    have G := hide (show 1 ≤ s0 ∧ s0 ≤ s1 ∧ s1 ≤ L ∧ j < s0 from ⟨b0, a0, a1, hmod3⟩)
    clear hf h h1 h2 hcell hL hj hj1 hj2 hs0 hs1 hcx hjl hmod hmod2 hmod3 hbl hrf lt hget a1 a0 b0
    have ix0 : ∀ w, (Instr.index 39 (.agg #[.int .i64 s0, .int .i64 s1, .int .i64 L]) (.int .i64 0)).run Tryd.prog w = .ok (.int .i64 s0) w := fun _ => by kernel_rfl
    have ix1 : ∀ w, (Instr.index 39 (.agg #[.int .i64 s0, .int .i64 s1, .int .i64 L]) (.int .i64 1)).run Tryd.prog w = .ok (.int .i64 s1) w := fun _ => by kernel_rfl
    have ix2 : ∀ w, (Instr.index 39 (.agg #[.int .i64 s0, .int .i64 s1, .int .i64 L]) (.int .i64 2)).run Tryd.prog w = .ok (.int .i64 L) w := fun _ => by kernel_rfl
    go_enter Tryd.func7, Tryd.ntmps7
    go_wp2_with (first
      | (go_at_call 10; refine (HH.out _).mono ?_; rintro e w1 ⟨rfl, h1⟩; have T := hide (T.out.then_ h1); have BB := hide (thenB BB.out h1); clear h1)
      | (go_at_call 24; with_reducible refine (HF.out _).mono ?_; rintro e w2 ⟨rfl, rfl⟩))
    go_loopw [50] (fun i wr => ∃ k : Nat, k ≤ 3 ∧ i = .int .i64 k ∧ Blk wr w1.heap.size 38 (rrow (rf s0) (rf s1) (rf L) k) ∧ Blk wr (w1.heap.size + 1) 39 #[.int .i64 s0, .int .i64 s1, .int .i64 L] ∧ Below w1.heap.size w1 wr) (fun i _ => 3 - (intOf i).toNat)
    case atStart => exact ⟨0, by omega, rfl, (Blk.new w1 38 #[.int .u64 0, .int .u64 0, .int .u64 0]).alloc _, by simpa using Blk.new (w1.alloc (.cells #[.int .u64 0, .int .u64 0, .int .u64 0] 38)) 39 #[.int .i64 s0, .int .i64 s1, .int .i64 L], ((Below.refl _ _).alloc (Nat.le_refl _) _).alloc (by simp) _⟩
    case round =>
      obtain ⟨k, hk, rfl, hR, hS, hb⟩ := hrel
      have BR := hide hR
      have BS := hide hS
      have HB := hide hb
      clear hR hS hb
      rcases (show k = 0 ∨ k = 1 ∨ k = 2 ∨ k = 3 by omega) with rfl | rfl | rfl | rfl
      · go_wp2_with (first
          | (go_at_call 11; with_reducible refine (C1.out s0 _ (by have := G.out; omega) (by have := G.out; omega) (PC.out _ _ (T.out.then_ HB.out))).mono ?_; rintro e w3 ⟨rfl, h3⟩; have BR := hide (BR.out.below h3 BR.out.lt); have BS := hide (BS.out.below h3 BS.out.lt); have HB := hide (thenB HB.out h3); clear h3)
          | (go_at_call 15; with_reducible refine (C2.out s0 _ (by have := G.out; omega) (by have := G.out; omega) (PC.out _ _ (T.out.then_ HB.out))).mono ?_; unfold RetKE; rintro e w4 ⟨A4, c4, rfl, l4, s4, h4⟩; have BR := hide (BR.out.below h4 BR.out.lt); have BS := hide (BS.out.below h4 BS.out.lt); have HB := hide (thenB HB.out h4); have K4 := hide s4; have cx4 := CX.out _ (T.out.then_ HB.out); clear s4 h4)
          | (go_at_call 20; with_reducible refine (C3.out s0 (by have := G.out; omega) (by have := G.out; omega) A4 c4 _ K4.out).mono ?_; rintro e w5 ⟨rfl, h5⟩; have BR := hide (BR.out.below h5 BR.out.lt); have BS := hide (BS.out.below h5 BS.out.lt); have HB := hide (thenB HB.out h5); have rc := BR.out.cell; have rz := BR.out.frozen; simp [rrow] at rc; clear h5))
        clear rc rz
        go_loopw [91] (fun i wr => ∃ q : Nat, q ≤ 0 ∧ i = .int .i64 q ∧ Blk wr w1.heap.size 38 (rrow (rf s0) (rf s1) (rf L) 1) ∧ Blk wr (w1.heap.size + 1) 39 #[.int .i64 s0, .int .i64 s1, .int .i64 L] ∧ Below w1.heap.size w1 wr) (fun i _ => 0 - (intOf i).toNat)
        case atStart => exact ⟨0, by omega, rfl, by simpa [rrow] using BR.out.set_ 0 (.int .u64 (rf s0)), BS.out.far (p := ⟨w1.heap.size, 0, none⟩) (by simp) _, HB.out.setCell (p := ⟨w1.heap.size, 0, none⟩) (Nat.le_refl _) _⟩
        case round =>
          clear BR BS HB cx4 K4
          obtain ⟨q, hq, rfl, hR, hS, hb⟩ := hrel
          have BR := hide hR
          have BS := hide hS
          have HB := hide hb
          clear hR hS hb
          obtain rfl : q = 0 := by omega
          · go_wp2
            go_roundw
            case rel => exact ⟨1, by omega, rfl, BR.out, BS.out, HB.out⟩
            case measure => simp [intOf]
      · go_wp2_with (first
          | (go_at_call 11; with_reducible refine (C1.out s1 _ (by have := G.out; omega) (by have := G.out; omega) (PC.out _ _ (T.out.then_ HB.out))).mono ?_; rintro e w3 ⟨rfl, h3⟩; have BR := hide (BR.out.below h3 BR.out.lt); have BS := hide (BS.out.below h3 BS.out.lt); have HB := hide (thenB HB.out h3); clear h3)
          | (go_at_call 15; with_reducible refine (C2.out s1 _ (by have := G.out; omega) (by have := G.out; omega) (PC.out _ _ (T.out.then_ HB.out))).mono ?_; unfold RetKE; rintro e w4 ⟨A4, c4, rfl, l4, s4, h4⟩; have BR := hide (BR.out.below h4 BR.out.lt); have BS := hide (BS.out.below h4 BS.out.lt); have HB := hide (thenB HB.out h4); have K4 := hide s4; have cx4 := CX.out _ (T.out.then_ HB.out); clear s4 h4)
          | (go_at_call 20; with_reducible refine (C3.out s1 (by have := G.out; omega) (by have := G.out; omega) A4 c4 _ K4.out).mono ?_; rintro e w5 ⟨rfl, h5⟩; have BR := hide (BR.out.below h5 BR.out.lt); have BS := hide (BS.out.below h5 BS.out.lt); have HB := hide (thenB HB.out h5); have rc := BR.out.cell; have rz := BR.out.frozen; simp [rrow] at rc; clear h5))
        clear rc rz
        go_loopw [91] (fun i wr => ∃ q : Nat, q ≤ 1 ∧ i = .int .i64 q ∧ Blk wr w1.heap.size 38 (rrow (rf s0) (rf s1) (rf L) 2) ∧ Blk wr (w1.heap.size + 1) 39 #[.int .i64 s0, .int .i64 s1, .int .i64 L] ∧ Below w1.heap.size w1 wr) (fun i _ => 1 - (intOf i).toNat)
        case atStart => exact ⟨0, by omega, rfl, by simpa [rrow] using BR.out.set_ 1 (.int .u64 (rf s1)), BS.out.far (p := ⟨w1.heap.size, 1, none⟩) (by simp) _, HB.out.setCell (p := ⟨w1.heap.size, 1, none⟩) (Nat.le_refl _) _⟩
        case round =>
          clear BR BS HB cx4 K4
          obtain ⟨q, hq, rfl, hR, hS, hb⟩ := hrel
          have BR := hide hR
          have BS := hide hS
          have HB := hide hb
          clear hR hS hb
          rcases (show q = 0 ∨ q = 1 by omega) with rfl | rfl
          · rename World => wi
            have nR := BR.out.cell 0
            have nS := BS.out.cell 0
            simp [rrow] at nR nS
            have NR := hide nR
            have NS := hide nS
            have hl1 := BR.out.lt
            have hl2 := BS.out.lt
            go_upto_region 20 with fail
            go_region_held3 (fun w' => Below wi.heap.size wi w' ∧ w'.cell? ⟨w1.heap.size + 1, 0, none⟩ = some (.int .i64 s0))
              ((refine keepC ?_ hl2 NS.out; (repeat (first | exact Below.refl _ _ | (refine Below.drew ?_) | (refine Below.alloc ?_ (by (first | ((repeat (first | simp only [World.size_alloc] | simp only [heap_drew])); omega) | omega | (simp; omega))) _) | (refine Below.trans ?_ (Below.mono (by assumption) (by (first | ((repeat (first | simp only [World.size_alloc] | simp only [heap_drew])); omega) | omega | (simp; omega)))))))))
              (first
                | (go_at_call 18; with_reducible refine (C4.out s1 s0 _ (by have := G.out; omega) (by have := G.out; omega) (by have := G.out; omega) (PC.out _ _ (T.out.then_ (thenB HB.out (And.left (by assumption)))))).mono ?_; unfold RetKE; rintro e w6 ⟨A6, c6, rfl, l6, s6, h6⟩; have hs6 := h6.size; (repeat (first | simp only [World.size_alloc] at hs6 | simp only [heap_drew] at hs6))))
            have hb6 : Below wi.heap.size wi w6 := by (repeat (first | exact Below.refl _ _ | (refine Below.drew ?_) | (refine Below.alloc ?_ (by (first | ((repeat (first | simp only [World.size_alloc] | simp only [heap_drew])); omega) | omega | (simp; omega))) _) | (refine Below.trans ?_ (Below.mono (by assumption) (by (first | ((repeat (first | simp only [World.size_alloc] | simp only [heap_drew])); omega) | omega | (simp; omega)))))))
            have K6 := hide s6
            have BR := hide (BR.out.below hb6 hl1)
            have BS := hide (BS.out.below hb6 hl2)
            have HB := hide (thenB HB.out hb6)
            clear s6 h6 hb6 hs6 nR nS
            go_upto_region 21 with fail
            have gR := fun y : Fut w6.heap.size w6 => (y.cell w1.heap.size 0 BR.out.lt).trans (show w6.cell? ⟨w1.heap.size, 0, none⟩ = some (.int .u64 (rf s0)) by have := BR.out.cell 0; simpa [rrow] using this)
            have gS := fun y : Fut w6.heap.size w6 => (y.cell (w1.heap.size + 1) 0 BS.out.lt).trans (show w6.cell? ⟨w1.heap.size + 1, 0, none⟩ = some (.int .i64 s0) by have := BS.out.cell 0; simpa using this)
            have X5 := hide fun y : Fut w6.heap.size w6 => C5.out s1 s0 (by have := G.out; omega) (by have := G.out; omega) (by have := G.out; omega) A6 c6 y.v l6 (K6.out.then_ y.h)
            refine wp_region_fut w6.heap.size (by kernel_rfl) (by kernel_rfl) ?_
            repeat (go_big_quiet_step ((first | (go_at_call 22; with_reducible exact Fut.call (Nat.le_refl _) (X5.out _)))))
            refine wpQuiet_nil ?_
            intro w7 hq'; have h7 := Fut.of hq'; clear hq'
            go_wp2
            go_roundw
            case rel => exact ⟨1, by omega, rfl, BR.out.below h7 BR.out.lt, BS.out.below h7 BS.out.lt, thenB HB.out h7⟩
            case measure => simp [intOf]
          · go_wp2
            go_roundw
            case rel => exact ⟨2, by omega, rfl, BR.out, BS.out, HB.out⟩
            case measure => simp [intOf]
      · go_wp2_with (first
          | (go_at_call 11; with_reducible refine (C1.out L _ (by have := G.out; omega) (by have := G.out; omega) (PC.out _ _ (T.out.then_ HB.out))).mono ?_; rintro e w3 ⟨rfl, h3⟩; have BR := hide (BR.out.below h3 BR.out.lt); have BS := hide (BS.out.below h3 BS.out.lt); have HB := hide (thenB HB.out h3); clear h3)
          | (go_at_call 15; with_reducible refine (C2.out L _ (by have := G.out; omega) (by have := G.out; omega) (PC.out _ _ (T.out.then_ HB.out))).mono ?_; unfold RetKE; rintro e w4 ⟨A4, c4, rfl, l4, s4, h4⟩; have BR := hide (BR.out.below h4 BR.out.lt); have BS := hide (BS.out.below h4 BS.out.lt); have HB := hide (thenB HB.out h4); have K4 := hide s4; have cx4 := CX.out _ (T.out.then_ HB.out); clear s4 h4)
          | (go_at_call 20; with_reducible refine (C3.out L (by have := G.out; omega) (by have := G.out; omega) A4 c4 _ K4.out).mono ?_; rintro e w5 ⟨rfl, h5⟩; have BR := hide (BR.out.below h5 BR.out.lt); have BS := hide (BS.out.below h5 BS.out.lt); have HB := hide (thenB HB.out h5); have rc := BR.out.cell; have rz := BR.out.frozen; simp [rrow] at rc; clear h5))
        clear rc rz
        go_loopw [91] (fun i wr => ∃ q : Nat, q ≤ 2 ∧ i = .int .i64 q ∧ Blk wr w1.heap.size 38 (rrow (rf s0) (rf s1) (rf L) 3) ∧ Blk wr (w1.heap.size + 1) 39 #[.int .i64 s0, .int .i64 s1, .int .i64 L] ∧ Below w1.heap.size w1 wr) (fun i _ => 2 - (intOf i).toNat)
        case atStart => exact ⟨0, by omega, rfl, by simpa [rrow] using BR.out.set_ 2 (.int .u64 (rf L)), BS.out.far (p := ⟨w1.heap.size, 2, none⟩) (by simp) _, HB.out.setCell (p := ⟨w1.heap.size, 2, none⟩) (Nat.le_refl _) _⟩
        case round =>
          clear BR BS HB cx4 K4
          obtain ⟨q, hq, rfl, hR, hS, hb⟩ := hrel
          have BR := hide hR
          have BS := hide hS
          have HB := hide hb
          clear hR hS hb
          rcases (show q = 0 ∨ q = 1 ∨ q = 2 by omega) with rfl | rfl | rfl
          · rename World => wi
            have nR := BR.out.cell 0
            have nS := BS.out.cell 0
            simp [rrow] at nR nS
            have NR := hide nR
            have NS := hide nS
            have hl1 := BR.out.lt
            have hl2 := BS.out.lt
            go_upto_region 20 with fail
            go_region_held3 (fun w' => Below wi.heap.size wi w' ∧ w'.cell? ⟨w1.heap.size + 1, 0, none⟩ = some (.int .i64 s0))
              ((refine keepC ?_ hl2 NS.out; (repeat (first | exact Below.refl _ _ | (refine Below.drew ?_) | (refine Below.alloc ?_ (by (first | ((repeat (first | simp only [World.size_alloc] | simp only [heap_drew])); omega) | omega | (simp; omega))) _) | (refine Below.trans ?_ (Below.mono (by assumption) (by (first | ((repeat (first | simp only [World.size_alloc] | simp only [heap_drew])); omega) | omega | (simp; omega)))))))))
              (first
                | (go_at_call 18; with_reducible refine (C4.out L s0 _ (by have := G.out; omega) (by have := G.out; omega) (by have := G.out; omega) (PC.out _ _ (T.out.then_ (thenB HB.out (And.left (by assumption)))))).mono ?_; unfold RetKE; rintro e w6 ⟨A6, c6, rfl, l6, s6, h6⟩; have hs6 := h6.size; (repeat (first | simp only [World.size_alloc] at hs6 | simp only [heap_drew] at hs6))))
            have hb6 : Below wi.heap.size wi w6 := by (repeat (first | exact Below.refl _ _ | (refine Below.drew ?_) | (refine Below.alloc ?_ (by (first | ((repeat (first | simp only [World.size_alloc] | simp only [heap_drew])); omega) | omega | (simp; omega))) _) | (refine Below.trans ?_ (Below.mono (by assumption) (by (first | ((repeat (first | simp only [World.size_alloc] | simp only [heap_drew])); omega) | omega | (simp; omega)))))))
            have K6 := hide s6
            have BR := hide (BR.out.below hb6 hl1)
            have BS := hide (BS.out.below hb6 hl2)
            have HB := hide (thenB HB.out hb6)
            clear s6 h6 hb6 hs6 nR nS
            go_upto_region 21 with fail
            have gR := fun y : Fut w6.heap.size w6 => (y.cell w1.heap.size 0 BR.out.lt).trans (show w6.cell? ⟨w1.heap.size, 0, none⟩ = some (.int .u64 (rf s0)) by have := BR.out.cell 0; simpa [rrow] using this)
            have gS := fun y : Fut w6.heap.size w6 => (y.cell (w1.heap.size + 1) 0 BS.out.lt).trans (show w6.cell? ⟨w1.heap.size + 1, 0, none⟩ = some (.int .i64 s0) by have := BS.out.cell 0; simpa using this)
            have X5 := hide fun y : Fut w6.heap.size w6 => C5.out L s0 (by have := G.out; omega) (by have := G.out; omega) (by have := G.out; omega) A6 c6 y.v l6 (K6.out.then_ y.h)
            refine wp_region_fut w6.heap.size (by kernel_rfl) (by kernel_rfl) ?_
            repeat (go_big_quiet_step ((first | (go_at_call 22; with_reducible exact Fut.call (Nat.le_refl _) (X5.out _)))))
            refine wpQuiet_nil ?_
            intro w7 hq'; have h7 := Fut.of hq'; clear hq'
            go_wp2
            go_roundw
            case rel => exact ⟨1, by omega, rfl, BR.out.below h7 BR.out.lt, BS.out.below h7 BS.out.lt, thenB HB.out h7⟩
            case measure => simp [intOf]
          · rename World => wi
            have nR := BR.out.cell 1
            have nS := BS.out.cell 1
            simp [rrow] at nR nS
            have NR := hide nR
            have NS := hide nS
            have hl1 := BR.out.lt
            have hl2 := BS.out.lt
            go_upto_region 20 with fail
            go_region_held3 (fun w' => Below wi.heap.size wi w' ∧ w'.cell? ⟨w1.heap.size + 1, 1, none⟩ = some (.int .i64 s1))
              ((refine keepC ?_ hl2 NS.out; (repeat (first | exact Below.refl _ _ | (refine Below.drew ?_) | (refine Below.alloc ?_ (by (first | ((repeat (first | simp only [World.size_alloc] | simp only [heap_drew])); omega) | omega | (simp; omega))) _) | (refine Below.trans ?_ (Below.mono (by assumption) (by (first | ((repeat (first | simp only [World.size_alloc] | simp only [heap_drew])); omega) | omega | (simp; omega)))))))))
              (first
                | (go_at_call 18; with_reducible refine (C4.out L s1 _ (by have := G.out; omega) (by have := G.out; omega) (by have := G.out; omega) (PC.out _ _ (T.out.then_ (thenB HB.out (And.left (by assumption)))))).mono ?_; unfold RetKE; rintro e w6 ⟨A6, c6, rfl, l6, s6, h6⟩; have hs6 := h6.size; (repeat (first | simp only [World.size_alloc] at hs6 | simp only [heap_drew] at hs6))))
            have hb6 : Below wi.heap.size wi w6 := by (repeat (first | exact Below.refl _ _ | (refine Below.drew ?_) | (refine Below.alloc ?_ (by (first | ((repeat (first | simp only [World.size_alloc] | simp only [heap_drew])); omega) | omega | (simp; omega))) _) | (refine Below.trans ?_ (Below.mono (by assumption) (by (first | ((repeat (first | simp only [World.size_alloc] | simp only [heap_drew])); omega) | omega | (simp; omega)))))))
            have K6 := hide s6
            have BR := hide (BR.out.below hb6 hl1)
            have BS := hide (BS.out.below hb6 hl2)
            have HB := hide (thenB HB.out hb6)
            clear s6 h6 hb6 hs6 nR nS
            go_upto_region 21 with fail
            have gR := fun y : Fut w6.heap.size w6 => (y.cell w1.heap.size 1 BR.out.lt).trans (show w6.cell? ⟨w1.heap.size, 1, none⟩ = some (.int .u64 (rf s1)) by have := BR.out.cell 1; simpa [rrow] using this)
            have gS := fun y : Fut w6.heap.size w6 => (y.cell (w1.heap.size + 1) 1 BS.out.lt).trans (show w6.cell? ⟨w1.heap.size + 1, 1, none⟩ = some (.int .i64 s1) by have := BS.out.cell 1; simpa using this)
            have X5 := hide fun y : Fut w6.heap.size w6 => C5.out L s1 (by have := G.out; omega) (by have := G.out; omega) (by have := G.out; omega) A6 c6 y.v l6 (K6.out.then_ y.h)
            refine wp_region_fut w6.heap.size (by kernel_rfl) (by kernel_rfl) ?_
            repeat (go_big_quiet_step ((first | (go_at_call 22; with_reducible exact Fut.call (Nat.le_refl _) (X5.out _)))))
            refine wpQuiet_nil ?_
            intro w7 hq'; have h7 := Fut.of hq'; clear hq'
            go_wp2
            go_roundw
            case rel => exact ⟨2, by omega, rfl, BR.out.below h7 BR.out.lt, BS.out.below h7 BS.out.lt, thenB HB.out h7⟩
            case measure => simp [intOf]
          · go_wp2
            go_roundw
            case rel => exact ⟨3, by omega, rfl, BR.out, BS.out, HB.out⟩
            case measure => simp [intOf]
      · go_wp2
        go_ret
        exact ⟨rfl, thenB BB.out HB.out⟩
end Go.Proofs.YtijnjgjpmgmifaaDoor
