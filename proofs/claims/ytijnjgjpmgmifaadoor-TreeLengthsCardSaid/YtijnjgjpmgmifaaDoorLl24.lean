/-
  The walk of the law TreeLengths.
-/
import Derived.Test.YtijnjgjpmgmifaaDoorGd
namespace Go.Proofs.YtijnjgjpmgmifaaDoor
open Go.RowKit
set_option maxHeartbeats 16000000 in
set_option maxRecDepth 100000 in
theorem lengths_walk (A : Option Addr) (c : Nat) (l : List Int) (m1 m2 : Nat) (more : Int) (w : World) (hlc : l.length ≤ c) (hm1 : m1 < 256) (hm2 : m2 < 256) (h : KS .u64 w A l) :
    Calls Tryd.prog 8 #[.slice A l.length c, .int .u8 m1, .int .u8 m2, .int .u64 more] w fun e w' => e = .returned (.bool true) ∧ Below w.heap.size w w' := by
  have HH := hide head_any
  have BB := hide (Below.refl w.heap.size w)
  have HF := hide fun W => few_any A c l W
  cases hf : fewB l
  · rw [hf] at HF
    clear hf h
    go_enter Tryd.func8, Tryd.ntmps8
    go_wp2_with (first
      | (go_at_call 10; refine (HH.out _).mono ?_; rintro e w1 ⟨rfl, h1⟩; have BB := hide (thenB BB.out h1); clear h1)
      | (go_at_call 24; with_reducible refine (HF.out _).mono ?_; rintro e w2 ⟨rfl, rfl⟩))
    go_ret
    exact ⟨rfl, BB.out⟩
  · obtain ⟨h1, h2⟩ := fewB_iff.1 hf
    rw [hf] at HF
    have T := hide (AllK.one h)
    obtain ⟨b, o, rfl, hbl, hcell⟩ := h.at_ (i := 0) (by omega)
    obtain ⟨L, hL⟩ : ∃ L, L = l.length := ⟨_, rfl⟩
    have hmod : m1 % L < L := Nat.mod_lt _ (by omega)
    have hmod2 : m2 % L < L := Nat.mod_lt _ (by omega)
    obtain ⟨j, hj⟩ : ∃ j, j = m1 % L := ⟨_, rfl⟩
    obtain ⟨j2, hj2⟩ : ∃ j, j = m2 % L := ⟨_, rfl⟩
    have e1 : (m1 : Int) % (L : Int) = (j : Int) := by rw [hj]; rfl
    have e2 : Int.tmod (m1 : Int) (L : Int) = (j : Int) := by rw [Int.tmod_eq_emod_of_nonneg (by omega)]; exact e1
    have e3 : (m2 : Int) % (L : Int) = (j2 : Int) := by rw [hj2]; rfl
    have e4 : Int.tmod (m2 : Int) (L : Int) = (j2 : Int) := by rw [Int.tmod_eq_emod_of_nonneg (by omega)]; exact e3
    rw [← hj] at hmod
    rw [← hj2] at hmod2
    obtain ⟨k, hk⟩ : ∃ k, k = 1 + j2 := ⟨_, rfl⟩
    have e5 : (1 : Int) + (j2 : Int) = (k : Int) := by omega
    have k1 : 1 ≤ k := by omega
    have k2 : k ≤ L := by omega
    have hjl : j < l.length := by omega
    have hlen : (l.take k).length = k := by simp; omega
    obtain ⟨cx, hcx⟩ : ∃ x, x = l[j] := ⟨_, rfl⟩
    have hp12 := inclF_le (l := l) (i := j) (by omega)
    have hq13 := extF_le (l := l) (m := k) (mark := true) (by omega)
    have C1 := hide fun W s => Root_ok (some ⟨b, o, none⟩) c L l W hL.symm (by omega) (by omega) (by omega) s
    have C2 := hide fun W s => Root_ok (some ⟨b, o, none⟩) c k (l.take k) W hlen k1 (by omega) (by omega) s
    have C3 := hide fun W s => Inc_ok (some ⟨b, o, none⟩) c L l j W hL.symm hmod (by omega) (by omega) s
    have C4 := hide fun W s => Ext_ok (some ⟨b, o, none⟩) c L l k W hL.symm k1 k2 (by omega) (by omega) s
    have CI := hide fun (path : List Int) (A' : Option Addr) (c' : Nat) (W : World) (hne : path.length ≠ (inclF l j).length) (hm : path.length ≤ 100) (s : KS .u64 W A' path) => (included_any (rootF l) cx j L A' c' path W (by omega) s).mono (R' := fun e w' => e = .returned (.bool false) ∧ Below W.heap.size W w') fun e w' ⟨he, hb⟩ => ⟨by rw [he, show inclS (rootF l) cx j L path = false by rw [hL]; exact inclS_len hjl (by omega) hne], hb⟩
    have CE := hide fun (path : List Int) (A' : Option Addr) (c' : Nat) (W : World) (hne : path.length ≠ (extF l k true).length) (hm : path.length ≤ 100) (hc : path.length ≤ c') (s : KS .u64 W A' path) => (Extended_any (rootF (l.take k)) (rootF l) k L A' c' path W (by omega) hc s).mono (R' := fun e w' => e = .returned (.bool false) ∧ Below W.heap.size W w') fun e w' ⟨he, hb⟩ => ⟨by rw [he, show growS (rootF (l.take k)) (rootF l) k L path = false by rw [hL]; exact growS_len k1 (by omega) (by omega) hne], hb⟩
    have PC := hide (fun W (s : AllK W [(some ⟨b, o, none⟩, l)]) => (s.get (A := some ⟨b, o, none⟩) (l := l) (by simp)).pre k)
    have CX := hide (fun (W : World) (s : AllK W [(some ⟨b, o, none⟩, l)]) => (show b < W.heap.size ∧ W.cell? ⟨b, o + j, none⟩ = some (.int .u64 cx) by
      obtain ⟨b', o', hA, hbl, hc⟩ := (s.get (A := some ⟨b, o, none⟩) (l := l) (by simp)).at_ (i := j) hjl
      injection hA with hA; injection hA with hA1 hA2; subst hA1; subst hA2
      rw [hcx]; exact ⟨hbl, hc j hjl⟩))
    obtain ⟨i0, hi, hz0, hz1, hz2⟩ := info_parts infoU
    obtain ⟨x, hx⟩ : ∃ x, x = rootF l := ⟨_, rfl⟩
    obtain ⟨y, hy⟩ : ∃ x, x = rootF (l.take k) := ⟨_, rfl⟩
    obtain ⟨p, hp⟩ : ∃ x, x = inclF l j := ⟨_, rfl⟩
    obtain ⟨q, hq⟩ : ∃ x, x = extF l k true := ⟨_, rfl⟩
    simp only [← hx, ← hy, ← hp, ← hq] at C1 C2 C3 C4 CI CE hp12 hq13
    obtain ⟨P, hP⟩ : ∃ P, P = p.length := ⟨_, rfl⟩
    obtain ⟨Q, hQ⟩ : ∃ P, P = q.length := ⟨_, rfl⟩
    have C3' := hide fun W s => (C3.out W s).mono (R' := fun e w' => ∃ A' c', e = .returned (.tuple #[.slice A' P c', .int .i64 0]) ∧ P ≤ c' ∧ KS .u64 w' A' p ∧ Below W.heap.size W w') (by rw [hP]; exact fun e w' h => h)
    have C4' := hide fun W s => (C4.out W s).mono (R' := fun e w' => ∃ A' c', e = .returned (.tuple #[.slice A' Q c', .int .i64 0]) ∧ Q ≤ c' ∧ KS .u64 w' A' q ∧ Below W.heap.size W w') (by rw [hQ]; exact fun e w' h => h)
    have HP := hide hP
    obtain ⟨pm, hpm⟩ : ∃ x, x = p ++ [more] := ⟨_, rfl⟩
    obtain ⟨qm, hqm⟩ : ∃ x, x = q ++ [more] := ⟨_, rfl⟩
    have HPM := hide hpm
    have HQM := hide hqm
    have NPM := hide (show pm.length ≠ p.length by rw [hpm]; simp)
    have NQM := hide (show qm.length ≠ q.length by rw [hqm]; simp)
    have LPM := hide (show pm.length ≤ 100 by rw [hpm]; simp; omega)
    have LQM := hide (show qm.length ≤ 100 by rw [hqm]; simp; omega)
    obtain ⟨mp, hmp⟩ : ∃ x, x = more :: p := ⟨_, rfl⟩
    obtain ⟨mq, hmq⟩ : ∃ x, x = more :: q := ⟨_, rfl⟩
    have HMP := hide hmp
    have HMQ := hide hmq
    have NMP := hide (show mp.length ≠ p.length by rw [hmp]; simp)
    have NMQ := hide (show mq.length ≠ q.length by rw [hmq]; simp)
    have LMP := hide (show mp.length ≤ 100 by rw [hmp]; simp; omega)
    have LMQ := hide (show mq.length ≤ 100 by rw [hmq]; simp; omega)
    clear hmp hmq
    clear hpm hqm
    have HQ := hide hQ
    rw [← hP] at hp12
    rw [← hQ] at hq13
    have HP12 := hide hp12
    have HQ13 := hide hq13
    rw [← hL] at hlc HF ⊢
    have p0 : (1 : Int) ≤ L := by omega
    have p1 : (L : Int) ≤ 60 := by omega
    have p2 : (0 : Int) ≤ k := by omega
    have p3 : (k : Int) ≤ c := by omega
    have p4 : (k : Int) ≤ L := by omega
    have p5 : (0 : Int) ≤ j := by omega
    have p6 : (j : Int) < L := by omega
    have p7 : (m1 : Int) < 256 := by omega
    have p8 : (m2 : Int) < 256 := by omega
    have q1 : decide (12 < (P : Int)) = false := decide_eq_false (by omega)
    have q2 : decide (12 < P) = false := decide_eq_false (by omega)
    have q3 : decide (13 < (Q : Int)) = false := decide_eq_false (by omega)
    have q4 : decide (13 < Q) = false := decide_eq_false (by omega)
    have e6 : IntKind.i64.wrap (1 + (j2 : Int)) = (k : Int) := by rw [e5]; exact IntWalk.i64_in _ (by omega)
    clear hf h h1 h2 hcell hL hj hj2 hx hy hp hq hcx hjl hmod hmod2 hbl hk hlen hP hQ C3 C4
    go_enter Tryd.func8, Tryd.ntmps8
    go_upto_region 4 with (first
      | (go_at_call 10; refine (HH.out _).mono ?_; rintro e w1 ⟨rfl, h1⟩; have T := hide (T.out.then_ h1); have BB := hide (thenB BB.out h1); clear h1)
      | (go_at_call 24; with_reducible refine (HF.out _).mono ?_; rintro e w2 ⟨rfl, rfl⟩))
    refine wp_region_fut w1.heap.size (by kernel_rfl) (by kernel_rfl) ?_
    repeat (go_big_quiet_step ((first | fail)))
    refine wpQuiet_nil ?_
    intro w3 hq'; have h3 := Fut.of hq'; clear hq'
    have T := hide (T.out.then_ h3); have BB := hide (thenB BB.out h3); clear h3
    go_upto_region 11 with (first
      | (go_at_call 11; with_reducible refine (C1.out _ (T.out.get (A := some ⟨b, o, none⟩) (l := l) (by simp))).mono ?_; rintro e w4 ⟨rfl, h4⟩; have T := hide (T.out.then_ h4); have BB := hide (thenB BB.out h4); clear h4)
      | (go_at_call 11; with_reducible refine (C2.out _ (PC.out _ T.out)).mono ?_; rintro e w5 ⟨rfl, h5⟩; have T := hide (T.out.then_ h5); have BB := hide (thenB BB.out h5); clear h5)
      | (go_at_call 15; with_reducible refine (C3'.out _ (T.out.get (A := some ⟨b, o, none⟩) (l := l) (by simp))).mono ?_; rintro e w6 ⟨A6, c6, rfl, l6, s6, h6⟩; have T := hide (T.out.then_ h6); have BB := hide (thenB BB.out h6); clear h6; have K6 := hide s6; clear s6)
      | (go_at_call 18; with_reducible refine (C4'.out _ (T.out.get (A := some ⟨b, o, none⟩) (l := l) (by simp))).mono ?_; rintro e w7 ⟨A7, c7, rfl, l7, s7, h7⟩; have K6 := hide (K6.out.then_ h7); have T := hide (T.out.then_ h7); have BB := hide (thenB BB.out h7); clear h7; have K7 := hide s7; clear s7))
    obtain ⟨hlb, n0⟩ := CX.out _ T.out
    have N0 := hide n0
    clear n0
    go_cut [112] (fun s wx => s = .bool false ∧ Below w7.heap.size w7 wx)
    case first =>
      go_region_held3 (fun w' => Below w7.heap.size w7 w' ∧ w'.cell? ⟨b, o + j, none⟩ = some (.int .u64 cx))
        ((refine keepC ?_ hlb N0.out; (repeat (first | exact Below.refl _ _ | (refine Below.drew ?_) | (refine Below.alloc ?_ (by (first | ((repeat (first | simp only [World.size_alloc] | simp only [heap_drew])); omega) | omega | (simp; omega))) _) | (refine Below.trans ?_ (Below.mono (by assumption) (by (first | ((repeat (first | simp only [World.size_alloc] | simp only [heap_drew])); omega) | omega | (simp; omega)))))))))
        (first
          | (refine step_append_rdg (by rfl) _ _ 22 (by rfl) w7.heap.size 23 i0 _ 1 8 Tryd.underlying22 hi hz0 hz1 hz2 rfl (by decide) _ 0 [] (by rfl) (by first | exact made0 (W := w7) (Nat.le_refl _) | exact (show OwnK .u64 23 (w7.alloc (.cells #[] 23)) w7.heap.size _ [] from made0 (W := w7) (Nat.le_refl _)).below (by (repeat (first | exact Below.refl _ _ | (refine Below.drew ?_) | (refine Below.alloc ?_ (Nat.le_refl _) _)))) | exact made0 (W := w7.alloc (.cells #[.int .u64 more] 23)) (by rw [World.size_alloc]; omega) | exact made0b (Nat.le_refl w7.heap.size) (Nat.le_refl w7.heap.size) | exact (show OwnK .u64 23 ((w7.alloc (.cells #[.int .u64 more] 23)).alloc (.cells #[] 23)) w7.heap.size (.slice (some ⟨w7.heap.size + 1, 0, none⟩) 0 0) [] from made0b (Nat.le_refl w7.heap.size) (Nat.le_refl w7.heap.size)).below (by (repeat (first | exact Below.refl _ _ | (refine Below.drew ?_) | (refine Below.alloc ?_ (Nat.le_refl _) _))))) A6 P c6 (p.map (Value.int .u64)) (by rfl) (by rw [HP.out]; simp) (K6.out.then_ (show Below w7.heap.size w7 _ by (repeat (first | exact Below.refl _ _ | (refine Below.drew ?_) | (refine Below.alloc ?_ (by (first | ((repeat (first | simp only [World.size_alloc] | simp only [heap_drew])); omega) | omega | (simp; omega))) _) | (refine Below.trans ?_ (Below.mono (by assumption) (by (first | ((repeat (first | simp only [World.size_alloc] | simp only [heap_drew])); omega) | omega | (simp; omega))))))))) (kone _) (bnd1 (by have := HP12.out; omega)) (bnd2 (by have := HP12.out; omega)) (show Below w7.heap.size w7 _ by (repeat (first | exact Below.refl _ _ | (refine Below.drew ?_) | (refine Below.alloc ?_ (by (first | ((repeat (first | simp only [World.size_alloc] | simp only [heap_drew])); omega) | omega | (simp; omega))) _) | (refine Below.trans ?_ (Below.mono (by assumption) (by (first | ((repeat (first | simp only [World.size_alloc] | simp only [heap_drew])); omega) | omega | (simp; omega)))))))).size ?_; intro v8 w8 hown8 hgrow8 _; have hb8 : Below w7.heap.size w7 w8 := (show Below w7.heap.size w7 _ by (repeat (first | exact Below.refl _ _ | (refine Below.drew ?_) | (refine Below.alloc ?_ (by (first | ((repeat (first | simp only [World.size_alloc] | simp only [heap_drew])); omega) | omega | (simp; omega))) _) | (refine Below.trans ?_ (Below.mono (by assumption) (by (first | ((repeat (first | simp only [World.size_alloc] | simp only [heap_drew])); omega) | omega | (simp; omega)))))))).grown hgrow8 (show Below w7.heap.size w7 _ by (repeat (first | exact Below.refl _ _ | (refine Below.drew ?_) | (refine Below.alloc ?_ (by (first | ((repeat (first | simp only [World.size_alloc] | simp only [heap_drew])); omega) | omega | (simp; omega))) _) | (refine Below.trans ?_ (Below.mono (by assumption) (by (first | ((repeat (first | simp only [World.size_alloc] | simp only [heap_drew])); omega) | omega | (simp; omega)))))))).size (by first | exact made_ge (W := w7) (Nat.le_refl _) | exact made_ge (W := w7.alloc (.cells #[.int .u64 more] 23)) (by rw [World.size_alloc]; omega) | exact made_geb (W := w7) (Nat.le_refl _)); have hs8 := hb8.size; (repeat (first | simp only [World.size_alloc] at hs8 | simp only [heap_drew] at hs8)); (first | (have R8 := hide (Rd.of_blk (blk_row (Blk.new (w7.alloc (.cells #[] 23)) 23 #[.int .u64 more]) hgrow8 (by simp)))) | (have R8 := hide (Rd.of_blk (blk_row (Blk.drew (Blk.new (w7.alloc (.cells #[] 23)) 23 #[.int .u64 more])) hgrow8 (by simp)))) | (have R8 := hide (Rd.of_blk (blk_row (Blk.alloc (Blk.new w7 23 #[.int .u64 more]) (.cells #[] 23)) hgrow8 (by simp)))) | (have R8 := hide (Rd.of_blk (blk_row (Blk.drew (Blk.alloc (Blk.new w7 23 #[.int .u64 more]) (.cells #[] 23))) hgrow8 (by simp)))) | (have R8 : True := trivial)); have O8 := hide (show OwnK .u64 23 w8 w7.heap.size v8 p by simpa [OwnK, HP.out] using hown8); clear hown8 hgrow8)
          | (refine step_append_rdg (by rfl) _ _ 22 (by rfl) w7.heap.size 23 i0 _ 1 8 Tryd.underlying22 hi hz0 hz1 hz2 rfl (by decide) _ p.length (p.map (Value.int .u64)) (by rfl) (O8.out.below (by (repeat (first | exact Below.refl _ _ | (refine Below.drew ?_) | (refine Below.alloc ?_ (Nat.le_refl _) _))))) _ 1 1 [.int .u64 more] (by rfl) rfl (by first | exact Rd.new_row _ _ _ | simpa using R8.out) (kone [more]) (bnd1 (by have := HP12.out; have := HP.out; omega)) (bnd2 (by have := HP12.out; have := HP.out; omega)) (show Below w7.heap.size w7 _ by (repeat (first | exact Below.refl _ _ | (refine Below.drew ?_) | (refine Below.alloc ?_ (by (first | ((repeat (first | simp only [World.size_alloc] | simp only [heap_drew])); omega) | omega | (simp; omega))) _) | (refine Below.trans ?_ (Below.mono (by assumption) (by (first | ((repeat (first | simp only [World.size_alloc] | simp only [heap_drew])); omega) | omega | (simp; omega)))))))).size ?_; intro v9 w9 hown9 hgrow9 _; have hb9 : Below w7.heap.size w7 w9 := (show Below w7.heap.size w7 _ by (repeat (first | exact Below.refl _ _ | (refine Below.drew ?_) | (refine Below.alloc ?_ (by (first | ((repeat (first | simp only [World.size_alloc] | simp only [heap_drew])); omega) | omega | (simp; omega))) _) | (refine Below.trans ?_ (Below.mono (by assumption) (by (first | ((repeat (first | simp only [World.size_alloc] | simp only [heap_drew])); omega) | omega | (simp; omega)))))))).grown hgrow9 (show Below w7.heap.size w7 _ by (repeat (first | exact Below.refl _ _ | (refine Below.drew ?_) | (refine Below.alloc ?_ (by (first | ((repeat (first | simp only [World.size_alloc] | simp only [heap_drew])); omega) | omega | (simp; omega))) _) | (refine Below.trans ?_ (Below.mono (by assumption) (by (first | ((repeat (first | simp only [World.size_alloc] | simp only [heap_drew])); omega) | omega | (simp; omega)))))))).size (fun g hg => (World.ownsRow.lt O8.out g hg).1); have hs9 := hb9.size; (repeat (first | simp only [World.size_alloc] at hs9 | simp only [heap_drew] at hs9)); have O9 := hide (show OwnK .u64 23 w9 w7.heap.size v9 pm by rw [HPM.out]; exact OwnK.snoc hown9 rfl rfl); obtain ⟨A9, c9, rfl, _, _, s9⟩ := O9.out.form; have K9 := hide s9; clear hown9 hgrow9 s9)
          | (go_at_call 20; with_reducible refine (CI.out pm A9 c9 _ NPM.out LPM.out K9.out).mono ?_; rintro e w10 ⟨rfl, hb10⟩; have hs10 := hb10.size; (repeat (first | simp only [World.size_alloc] at hs10 | simp only [heap_drew] at hs10)))
          | ((refine step_append_rdg (by rfl) _ _ 22 (by rfl) w7.heap.size 23 i0 _ 1 8 Tryd.underlying22 hi hz0 hz1 hz2 rfl (by decide) _ 0 [] (by rfl) (by first | exact made0 (W := w10) (by omega) | exact (show OwnK .u64 23 (w10.alloc (.cells #[] 23)) w7.heap.size _ [] from made0 (W := w10) (by omega)).below (by (repeat (first | exact Below.refl _ _ | (refine Below.drew ?_) | (refine Below.alloc ?_ (Nat.le_refl _) _)))) | exact made0 (W := w10.alloc (.cells #[.int .u64 more] 23)) (by rw [World.size_alloc]; omega) | exact made0b hs9 hs10 | exact (show OwnK .u64 23 ((w10.alloc (.cells #[.int .u64 more] 23)).alloc (.cells #[] 23)) w7.heap.size (.slice (some ⟨w10.heap.size + 1, 0, none⟩) 0 0) [] from made0b hs9 hs10).below (by (repeat (first | exact Below.refl _ _ | (refine Below.drew ?_) | (refine Below.alloc ?_ (Nat.le_refl _) _))))) A7 Q c7 (q.map (Value.int .u64)) (by rfl) (by rw [HQ.out]; simp) (K7.out.then_ (show Below w7.heap.size w7 _ by (repeat (first | exact Below.refl _ _ | (refine Below.drew ?_) | (refine Below.alloc ?_ (by (first | ((repeat (first | simp only [World.size_alloc] | simp only [heap_drew])); omega) | omega | (simp; omega))) _) | (refine Below.trans ?_ (Below.mono (by assumption) (by (first | ((repeat (first | simp only [World.size_alloc] | simp only [heap_drew])); omega) | omega | (simp; omega))))))))) (kone _) (bnd1 (by have := HQ13.out; omega)) (bnd2 (by have := HQ13.out; omega)) (show Below w7.heap.size w7 _ by (repeat (first | exact Below.refl _ _ | (refine Below.drew ?_) | (refine Below.alloc ?_ (by (first | ((repeat (first | simp only [World.size_alloc] | simp only [heap_drew])); omega) | omega | (simp; omega))) _) | (refine Below.trans ?_ (Below.mono (by assumption) (by (first | ((repeat (first | simp only [World.size_alloc] | simp only [heap_drew])); omega) | omega | (simp; omega)))))))).size ?_); intro v11 w11 hown11 hgrow11 _; have hb11 : Below w7.heap.size w7 w11 := (show Below w7.heap.size w7 _ by (repeat (first | exact Below.refl _ _ | (refine Below.drew ?_) | (refine Below.alloc ?_ (by (first | ((repeat (first | simp only [World.size_alloc] | simp only [heap_drew])); omega) | omega | (simp; omega))) _) | (refine Below.trans ?_ (Below.mono (by assumption) (by (first | ((repeat (first | simp only [World.size_alloc] | simp only [heap_drew])); omega) | omega | (simp; omega)))))))).grown hgrow11 (show Below w7.heap.size w7 _ by (repeat (first | exact Below.refl _ _ | (refine Below.drew ?_) | (refine Below.alloc ?_ (by (first | ((repeat (first | simp only [World.size_alloc] | simp only [heap_drew])); omega) | omega | (simp; omega))) _) | (refine Below.trans ?_ (Below.mono (by assumption) (by (first | ((repeat (first | simp only [World.size_alloc] | simp only [heap_drew])); omega) | omega | (simp; omega)))))))).size (by first | exact made_ge (W := w10) (by omega) | exact made_ge (W := w10.alloc (.cells #[.int .u64 more] 23)) (by rw [World.size_alloc]; omega) | exact made_geb (W := w10) (by omega)); have hs11 := hb11.size; (repeat (first | simp only [World.size_alloc] at hs11 | simp only [heap_drew] at hs11));  (first | (have R11 := hide (Rd.of_blk (blk_row (Blk.new (w10.alloc (.cells #[] 23)) 23 #[.int .u64 more]) hgrow11 (by simp)))) | (have R11 := hide (Rd.of_blk (blk_row (Blk.drew (Blk.new (w10.alloc (.cells #[] 23)) 23 #[.int .u64 more])) hgrow11 (by simp)))) | (have R11 := hide (Rd.of_blk (blk_row (Blk.alloc (Blk.new w10 23 #[.int .u64 more]) (.cells #[] 23)) hgrow11 (by simp)))) | (have R11 := hide (Rd.of_blk (blk_row (Blk.drew (Blk.alloc (Blk.new w10 23 #[.int .u64 more]) (.cells #[] 23))) hgrow11 (by simp)))) | (have R11 : True := trivial)); have O11 := hide (show OwnK .u64 23 w11 w7.heap.size v11 q by simpa [OwnK, HQ.out] using hown11); clear hown11 hgrow11)
          | (refine step_append_rdg (by rfl) _ _ 22 (by rfl) w7.heap.size 23 i0 _ 1 8 Tryd.underlying22 hi hz0 hz1 hz2 rfl (by decide) _ q.length (q.map (Value.int .u64)) (by rfl) (O11.out.below (by (repeat (first | exact Below.refl _ _ | (refine Below.drew ?_) | (refine Below.alloc ?_ (Nat.le_refl _) _))))) _ 1 1 [.int .u64 more] (by rfl) rfl (by first | exact Rd.new_row _ _ _ | simpa using R11.out) (kone [more]) (bnd1 (by have := HQ13.out; have := HQ.out; omega)) (bnd2 (by have := HQ13.out; have := HQ.out; omega)) (show Below w7.heap.size w7 _ by (repeat (first | exact Below.refl _ _ | (refine Below.drew ?_) | (refine Below.alloc ?_ (by (first | ((repeat (first | simp only [World.size_alloc] | simp only [heap_drew])); omega) | omega | (simp; omega))) _) | (refine Below.trans ?_ (Below.mono (by assumption) (by (first | ((repeat (first | simp only [World.size_alloc] | simp only [heap_drew])); omega) | omega | (simp; omega)))))))).size ?_; intro v12 w12 hown12 hgrow12 _; have hb12 : Below w7.heap.size w7 w12 := (show Below w7.heap.size w7 _ by (repeat (first | exact Below.refl _ _ | (refine Below.drew ?_) | (refine Below.alloc ?_ (by (first | ((repeat (first | simp only [World.size_alloc] | simp only [heap_drew])); omega) | omega | (simp; omega))) _) | (refine Below.trans ?_ (Below.mono (by assumption) (by (first | ((repeat (first | simp only [World.size_alloc] | simp only [heap_drew])); omega) | omega | (simp; omega)))))))).grown hgrow12 (show Below w7.heap.size w7 _ by (repeat (first | exact Below.refl _ _ | (refine Below.drew ?_) | (refine Below.alloc ?_ (by (first | ((repeat (first | simp only [World.size_alloc] | simp only [heap_drew])); omega) | omega | (simp; omega))) _) | (refine Below.trans ?_ (Below.mono (by assumption) (by (first | ((repeat (first | simp only [World.size_alloc] | simp only [heap_drew])); omega) | omega | (simp; omega)))))))).size (fun g hg => (World.ownsRow.lt O11.out g hg).1); have hs12 := hb12.size; (repeat (first | simp only [World.size_alloc] at hs12 | simp only [heap_drew] at hs12)); have O12 := hide (show OwnK .u64 23 w12 w7.heap.size v12 qm by rw [HQM.out]; exact OwnK.snoc hown12 rfl rfl); obtain ⟨A12, c12, rfl, l12, _, s12⟩ := O12.out.form; have K12 := hide s12; clear hown12 hgrow12 s12)
          | (go_at_call 22; with_reducible refine (CE.out qm A12 c12 _ NQM.out LQM.out l12 K12.out).mono ?_; rintro e w13 ⟨rfl, hb13⟩; have hs13 := hb13.size; (repeat (first | simp only [World.size_alloc] at hs13 | simp only [heap_drew] at hs13))))
      all_goals (go_wp2_with fail; go_meet; case rel => exact ⟨rfl, by (repeat (first | exact Below.refl _ _ | (refine Below.drew ?_) | (refine Below.alloc ?_ (by (first | ((repeat (first | simp only [World.size_alloc] | simp only [heap_drew])); omega) | omega | (simp; omega))) _) | (refine Below.trans ?_ (Below.mono (by assumption) (by (first | ((repeat (first | simp only [World.size_alloc] | simp only [heap_drew])); omega) | omega | (simp; omega)))))))⟩)
    case rest =>
      obtain ⟨rfl, hb14⟩ := hcut
      have K6 := hide (K6.out.then_ hb14)
      have K7 := hide (K7.out.then_ hb14)
      have T := hide (T.out.then_ hb14); have BB := hide (thenB BB.out hb14); clear hb14
      rename World => w14
      obtain ⟨hlb, n0⟩ := CX.out _ T.out
      have N0 := hide n0
      clear n0
      go_upto_region 13 with fail
      go_cut [137] (fun s wx => s = .bool false ∧ Below w14.heap.size w14 wx)
      case first =>
        go_region_held3 (fun w' => Below w14.heap.size w14 w' ∧ w'.cell? ⟨b, o + j, none⟩ = some (.int .u64 cx))
          ((refine keepC ?_ hlb N0.out; (repeat (first | exact Below.refl _ _ | (refine Below.drew ?_) | (refine Below.alloc ?_ (by (first | ((repeat (first | simp only [World.size_alloc] | simp only [heap_drew])); omega) | omega | (simp; omega))) _) | (refine Below.trans ?_ (Below.mono (by assumption) (by (first | ((repeat (first | simp only [World.size_alloc] | simp only [heap_drew])); omega) | omega | (simp; omega)))))))))
          (first
            | (refine step_append_rdg (by rfl) _ _ 22 (by rfl) w14.heap.size 23 i0 _ 1 8 Tryd.underlying22 hi hz0 hz1 hz2 rfl (by decide) _ 1 [.int .u64 more] (by rfl) (by first | exact made1 (W := w14) (Nat.le_refl _) | exact (show OwnK .u64 23 (w14.alloc (.cells #[.int .u64 more] 23)) w14.heap.size _ [more] from made1 (W := w14) (Nat.le_refl _)).below (by (repeat (first | exact Below.refl _ _ | (refine Below.drew ?_) | (refine Below.alloc ?_ (Nat.le_refl _) _))))) A6 P c6 (p.map (Value.int .u64)) (by rfl) (by rw [HP.out]; simp) (K6.out.then_ (show Below w14.heap.size w14 _ by (repeat (first | exact Below.refl _ _ | (refine Below.drew ?_) | (refine Below.alloc ?_ (by (first | ((repeat (first | simp only [World.size_alloc] | simp only [heap_drew])); omega) | omega | (simp; omega))) _) | (refine Below.trans ?_ (Below.mono (by assumption) (by (first | ((repeat (first | simp only [World.size_alloc] | simp only [heap_drew])); omega) | omega | (simp; omega))))))))) (kone _) (bnd1 (by have := HP12.out; omega)) (bnd2 (by have := HP12.out; omega)) (show Below w14.heap.size w14 _ by (repeat (first | exact Below.refl _ _ | (refine Below.drew ?_) | (refine Below.alloc ?_ (by (first | ((repeat (first | simp only [World.size_alloc] | simp only [heap_drew])); omega) | omega | (simp; omega))) _) | (refine Below.trans ?_ (Below.mono (by assumption) (by (first | ((repeat (first | simp only [World.size_alloc] | simp only [heap_drew])); omega) | omega | (simp; omega)))))))).size ?_; intro v15 w15 hown15 hgrow15 _; have hb15 : Below w14.heap.size w14 w15 := (show Below w14.heap.size w14 _ by (repeat (first | exact Below.refl _ _ | (refine Below.drew ?_) | (refine Below.alloc ?_ (by (first | ((repeat (first | simp only [World.size_alloc] | simp only [heap_drew])); omega) | omega | (simp; omega))) _) | (refine Below.trans ?_ (Below.mono (by assumption) (by (first | ((repeat (first | simp only [World.size_alloc] | simp only [heap_drew])); omega) | omega | (simp; omega)))))))).grown hgrow15 (show Below w14.heap.size w14 _ by (repeat (first | exact Below.refl _ _ | (refine Below.drew ?_) | (refine Below.alloc ?_ (by (first | ((repeat (first | simp only [World.size_alloc] | simp only [heap_drew])); omega) | omega | (simp; omega))) _) | (refine Below.trans ?_ (Below.mono (by assumption) (by (first | ((repeat (first | simp only [World.size_alloc] | simp only [heap_drew])); omega) | omega | (simp; omega)))))))).size (made_ge (W := w14) (Nat.le_refl _)); have hs15 := hb15.size; (repeat (first | simp only [World.size_alloc] at hs15 | simp only [heap_drew] at hs15)); have O15 := hide (show OwnK .u64 23 w15 w14.heap.size v15 mp by rw [HMP.out]; simpa [OwnK, HP.out, Nat.add_comm] using hown15); obtain ⟨A15, c15, rfl, _, _, s15⟩ := O15.out.form; have K15 := hide s15; clear hown15 hgrow15 s15)
            | (go_at_call 20; with_reducible refine (CI.out mp A15 c15 _ NMP.out LMP.out K15.out).mono ?_; rintro e w16 ⟨rfl, hb16⟩; have hs16 := hb16.size; (repeat (first | simp only [World.size_alloc] at hs16 | simp only [heap_drew] at hs16)))
            | (refine step_append_rdg (by rfl) _ _ 22 (by rfl) w14.heap.size 23 i0 _ 1 8 Tryd.underlying22 hi hz0 hz1 hz2 rfl (by decide) _ 1 [.int .u64 more] (by rfl) (by first | exact made1 (W := w16) (by omega) | exact (show OwnK .u64 23 (w16.alloc (.cells #[.int .u64 more] 23)) w14.heap.size _ [more] from made1 (W := w16) (by omega)).below (by (repeat (first | exact Below.refl _ _ | (refine Below.drew ?_) | (refine Below.alloc ?_ (Nat.le_refl _) _))))) A7 Q c7 (q.map (Value.int .u64)) (by rfl) (by rw [HQ.out]; simp) (K7.out.then_ (show Below w14.heap.size w14 _ by (repeat (first | exact Below.refl _ _ | (refine Below.drew ?_) | (refine Below.alloc ?_ (by (first | ((repeat (first | simp only [World.size_alloc] | simp only [heap_drew])); omega) | omega | (simp; omega))) _) | (refine Below.trans ?_ (Below.mono (by assumption) (by (first | ((repeat (first | simp only [World.size_alloc] | simp only [heap_drew])); omega) | omega | (simp; omega))))))))) (kone _) (bnd1 (by have := HQ13.out; omega)) (bnd2 (by have := HQ13.out; omega)) (show Below w14.heap.size w14 _ by (repeat (first | exact Below.refl _ _ | (refine Below.drew ?_) | (refine Below.alloc ?_ (by (first | ((repeat (first | simp only [World.size_alloc] | simp only [heap_drew])); omega) | omega | (simp; omega))) _) | (refine Below.trans ?_ (Below.mono (by assumption) (by (first | ((repeat (first | simp only [World.size_alloc] | simp only [heap_drew])); omega) | omega | (simp; omega)))))))).size ?_; intro v17 w17 hown17 hgrow17 _; have hb17 : Below w14.heap.size w14 w17 := (show Below w14.heap.size w14 _ by (repeat (first | exact Below.refl _ _ | (refine Below.drew ?_) | (refine Below.alloc ?_ (by (first | ((repeat (first | simp only [World.size_alloc] | simp only [heap_drew])); omega) | omega | (simp; omega))) _) | (refine Below.trans ?_ (Below.mono (by assumption) (by (first | ((repeat (first | simp only [World.size_alloc] | simp only [heap_drew])); omega) | omega | (simp; omega)))))))).grown hgrow17 (show Below w14.heap.size w14 _ by (repeat (first | exact Below.refl _ _ | (refine Below.drew ?_) | (refine Below.alloc ?_ (by (first | ((repeat (first | simp only [World.size_alloc] | simp only [heap_drew])); omega) | omega | (simp; omega))) _) | (refine Below.trans ?_ (Below.mono (by assumption) (by (first | ((repeat (first | simp only [World.size_alloc] | simp only [heap_drew])); omega) | omega | (simp; omega)))))))).size (made_ge (W := w16) (by omega)); have hs17 := hb17.size; (repeat (first | simp only [World.size_alloc] at hs17 | simp only [heap_drew] at hs17)); have O17 := hide (show OwnK .u64 23 w17 w14.heap.size v17 mq by rw [HMQ.out]; simpa [OwnK, HQ.out, Nat.add_comm] using hown17); obtain ⟨A17, c17, rfl, l17, _, s17⟩ := O17.out.form; have K17 := hide s17; clear hown17 hgrow17 s17)
            | (go_at_call 22; with_reducible refine (CE.out mq A17 c17 _ NMQ.out LMQ.out l17 K17.out).mono ?_; rintro e w18 ⟨rfl, hb18⟩; have hs18 := hb18.size; (repeat (first | simp only [World.size_alloc] at hs18 | simp only [heap_drew] at hs18))))
        all_goals (go_wp2_with fail; go_meet; case rel => exact ⟨rfl, by (repeat (first | exact Below.refl _ _ | (refine Below.drew ?_) | (refine Below.alloc ?_ (by (first | ((repeat (first | simp only [World.size_alloc] | simp only [heap_drew])); omega) | omega | (simp; omega))) _) | (refine Below.trans ?_ (Below.mono (by assumption) (by (first | ((repeat (first | simp only [World.size_alloc] | simp only [heap_drew])); omega) | omega | (simp; omega)))))))⟩)
      case rest =>
        obtain ⟨rfl, hb19⟩ := hcut
        have K6 := hide (K6.out.then_ hb19)
        have K7 := hide (K7.out.then_ hb19)
        have T := hide (T.out.then_ hb19); have BB := hide (thenB BB.out hb19); clear hb19
        rename World => w19
        obtain ⟨hlb, n0⟩ := CX.out _ T.out
        have N0 := hide n0
        clear n0
        go_upto_region 15 with fail
        go_cut [156] (fun s wx => s = .bool false ∧ Below w19.heap.size w19 wx)
        case first =>
          rcases Nat.eq_zero_or_pos P with hP0 | hP0
          · have d1 : decide (0 < (P : Int)) = false := decide_eq_false (by omega)
            have d2 : decide (0 < P) = false := decide_eq_false (by omega)
            clear hP0
            refine wp_region_fut w19.heap.size (by kernel_rfl) (by kernel_rfl) ?_
            repeat (go_big_quiet_step ((first | fail)))
            refine wpQuiet_nil ?_
            intro w20 hq'; have hb20 := Fut.of hq'; clear hq'
            go_wp2_with fail
            go_meet
            case rel => exact ⟨rfl, hb20⟩
          · obtain ⟨P', rfl⟩ : ∃ P', P = P' + 1 := ⟨P - 1, by omega⟩
            obtain ⟨b6, o6, rfl, -, -⟩ := K6.out.at_ (i := 0) (by have := HP.out; omega)
            obtain ⟨pd, hpd⟩ : ∃ x, x = p.take P' := ⟨_, rfl⟩
            have hpl : pd.length = P' := by rw [hpd]; have := HP.out; simp; omega
            have KD := hide (show KS .u64 w19 (some ⟨b6, o6, none⟩) pd by rw [hpd]; exact K6.out.pre P')
            have hne : pd.length ≠ p.length := by have := HP.out; omega
            have CD := hide fun W (s : KS .u64 W (some ⟨b6, o6, none⟩) pd) => CI.out pd (some ⟨b6, o6, none⟩) c6 W hne (by have := HP12.out; omega) s
            rw [hpl] at CD
            have d1 : decide (0 < ((P' : Int) + 1)) = true := decide_eq_true (by omega)
            have d2 : decide (0 < P' + 1) = true := decide_eq_true (by omega)
            have y1 : (0 : Int) ≤ (P' : Int) := by omega
            have y2 : (P' : Int) ≤ c6 := by omega
            have y3 : IntKind.i64.wrap ((P' : Int) + 1 - 1) = (P' : Int) := by rw [Int.add_sub_cancel]; exact IntWalk.i64_in _ (by have := HP12.out; omega)
            have y4 : IntKind.i64.wrap (P' : Int) = (P' : Int) := IntWalk.i64_in _ (by have := HP12.out; omega)
            clear hpd hpl hne hP0
            go_region_held3 (fun w' => Below w19.heap.size w19 w' ∧ w'.cell? ⟨b, o + j, none⟩ = some (.int .u64 cx))
              ((refine keepC ?_ hlb N0.out; (repeat (first | exact Below.refl _ _ | (refine Below.drew ?_) | (refine Below.alloc ?_ (by (first | ((repeat (first | simp only [World.size_alloc] | simp only [heap_drew])); omega) | omega | (simp; omega))) _) | (refine Below.trans ?_ (Below.mono (by assumption) (by (first | ((repeat (first | simp only [World.size_alloc] | simp only [heap_drew])); omega) | omega | (simp; omega)))))))))
              (first
                | (go_at_call 20; with_reducible refine (CD.out _ (KD.out.then_ (And.left (by assumption)))).mono ?_; rintro e w20 ⟨rfl, hb20⟩; have hs20 := hb20.size; (repeat (first | simp only [World.size_alloc] at hs20 | simp only [heap_drew] at hs20))))
            all_goals (go_wp2_with fail; go_meet; case rel => exact ⟨rfl, by (repeat (first | exact Below.refl _ _ | (refine Below.drew ?_) | (refine Below.alloc ?_ (by (first | ((repeat (first | simp only [World.size_alloc] | simp only [heap_drew])); omega) | omega | (simp; omega))) _) | (refine Below.trans ?_ (Below.mono (by assumption) (by (first | ((repeat (first | simp only [World.size_alloc] | simp only [heap_drew])); omega) | omega | (simp; omega)))))))⟩)
        case rest =>
          obtain ⟨rfl, hb21⟩ := hcut
          have K7 := hide (K7.out.then_ hb21)
          have T := hide (T.out.then_ hb21); have BB := hide (thenB BB.out hb21); clear hb21
          rename World => w21
          clear K6
          rcases Nat.eq_zero_or_pos Q with hQ0 | hQ0
          · subst hQ0
            go_wp2
            go_ret
            exact ⟨rfl, BB.out⟩
          · obtain ⟨Q', rfl⟩ : ∃ Q', Q = Q' + 1 := ⟨Q - 1, by omega⟩
            obtain ⟨b7, o7, rfl, -, -⟩ := K7.out.at_ (i := 0) (by have := HQ.out; omega)
            obtain ⟨qd, hqd⟩ : ∃ x, x = q.take Q' := ⟨_, rfl⟩
            have hql : qd.length = Q' := by rw [hqd]; have := HQ.out; simp; omega
            have KD := hide (show KS .u64 w21 (some ⟨b7, o7, none⟩) qd by rw [hqd]; exact K7.out.pre Q')
            have hne : qd.length ≠ q.length := by have := HQ.out; omega
            have CD := hide fun W (s : KS .u64 W (some ⟨b7, o7, none⟩) qd) => CE.out qd (some ⟨b7, o7, none⟩) c7 W hne (by have := HQ13.out; omega) (by omega) s
            rw [hql] at CD
            have d1 : ((Q' : Int) + 1 == 0) = false := by simp; omega
            have z1 : (Q' : Int) ≤ c7 := by omega
            clear hqd hql hne hQ0
            go_wp2_with (go_at_call 22; with_reducible refine (CD.out _ KD.out).mono ?_; rintro e w22 ⟨rfl, hb22⟩; have BB := hide (thenB BB.out hb22); clear hb22)
            go_ret
            exact ⟨rfl, BB.out⟩
end Go.Proofs.YtijnjgjpmgmifaaDoor
