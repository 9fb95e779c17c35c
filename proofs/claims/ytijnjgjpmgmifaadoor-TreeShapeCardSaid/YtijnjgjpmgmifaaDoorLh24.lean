/-
  The walk of the law TreeShape.
-/
import Derived.Test.YtijnjgjpmgmifaaDoorLx24
namespace Go.Proofs.YtijnjgjpmgmifaaDoor
open Go.RowKit
theorem shape_cut (A : Option Addr) (c : Nat) (l : List Int) (m : Nat) (w : World) (hc : fewB l = false ∨ l.length < 2) :
    Calls Tryd.prog 4 #[.slice A l.length c, .int .u8 m] w fun e w' => e = .returned (.bool true) ∧ Below w.heap.size w w' := by
  have HH := hide head_any
  have HF := hide fun W => few_any A c l W
  cases hf : fewB l
  · rw [hf] at HF
    clear hf hc
    go_enter Tryd.func4, Tryd.ntmps4
    go_wp2_with (first
      | (go_at_call 10; refine (HH.out _).mono ?_; rintro e w1 ⟨rfl, h1⟩)
      | (go_at_call 24; with_reducible refine (HF.out _).mono ?_; rintro e w2 ⟨rfl, rfl⟩))
    go_ret
    exact ⟨rfl, h1⟩
  · have h2 : l.length < 2 := hc.resolve_left (by simp [hf])
    rw [hf] at HF
    have q1 : decide ((l.length : Int) < 2) = true := decide_eq_true (by omega)
    have q2 : decide (l.length < 2) = true := decide_eq_true (by omega)
    clear hf hc h2
    go_enter Tryd.func4, Tryd.ntmps4
    go_wp2_with (first
      | (go_at_call 10; refine (HH.out _).mono ?_; rintro e w1 ⟨rfl, h1⟩)
      | (go_at_call 24; with_reducible refine (HF.out _).mono ?_; rintro e w2 ⟨rfl, rfl⟩))
    go_ret
    exact ⟨rfl, h1⟩
set_option maxHeartbeats 16000000 in
set_option maxRecDepth 100000 in
theorem shape_walk (A : Option Addr) (c : Nat) (l : List Int) (m : Nat) (w : World) (hlc : l.length ≤ c) (hm : m < 256) (h : KS .u64 w A l) :
    Calls Tryd.prog 4 #[.slice A l.length c, .int .u8 m] w fun e w' => e = .returned (.bool true) ∧ Below w.heap.size w w' := by
  by_cases hcut : fewB l = false ∨ l.length < 2
  · exact shape_cut A c l m w hcut
  have hfw : fewB l = true := by cases hq : fewB l <;> simp_all
  obtain ⟨h1, h2⟩ := fewB_iff.1 hfw
  have h3 : 2 ≤ l.length := by omega
  have HH := hide head_any
  have BB := hide (Below.refl w.heap.size w)
  have HF := hide fun W => few_any A c l W
  rw [hfw] at HF
  have T := hide (AllK.one h)
  obtain ⟨b, o, rfl, hbl, hcell⟩ := h.at_ (i := 0) (by omega)
  have sp := rootF_split h3
  have il := fun i => @inclF_left l i h3
  have ir := fun i => @inclF_right l i h3
  obtain ⟨s1, s2, s3⟩ := hf_spec h3
  obtain ⟨L, hL⟩ : ∃ L, L = l.length := ⟨_, rfl⟩
  rw [← hL] at sp il ir s1 s2 s3
  obtain ⟨k, hk⟩ : ∃ k, k = hf L := ⟨_, rfl⟩
  rw [← hk] at sp s1 s2 s3
  simp only [← hk] at il ir
  have hmod : m % L < L := Nat.mod_lt _ (by omega)
  obtain ⟨j, hj⟩ : ∃ j, j = m % L := ⟨_, rfl⟩
  have e1 : (m : Int) % (L : Int) = (j : Int) := by rw [hj]; rfl
  have e2 : Int.tmod (m : Int) (L : Int) = (j : Int) := by rw [Int.tmod_eq_emod_of_nonneg (by omega)]; exact e1
  rw [← hj] at hmod
  have hlt : (l.take k).length = k := by simp; omega
  have hld : (l.drop k).length = L - k := by simp; omega
  have C1 := hide fun W s => Root_ok (some ⟨b, o, none⟩) c L l W hL.symm (by omega) (by omega) (by omega) s
  have C2 := hide fun W s => Root_ok (some ⟨b, o, none⟩) c k (l.take k) W hlt s1 (by omega) (by omega) s
  have C3 := hide fun W s => Root_ok (some ⟨b, o + k, none⟩) (c - k) (L - k) (l.drop k) W hld (by omega) (by omega) (by omega) s
  have C4 := hide fun W s => Inc_ok (some ⟨b, o, none⟩) c L l j W hL.symm hmod (by omega) (by omega) s
  have P1 := hide (fun W (s : AllK W [(some ⟨b, o, none⟩, l)]) => (s.get (A := some ⟨b, o, none⟩) (l := l) (by simp)).pre k)
  have P2 := hide (fun W (s : AllK W [(some ⟨b, o, none⟩, l)]) => KS.shift (n := k) (s.get (A := some ⟨b, o, none⟩) (l := l) (by simp)) (by omega))
  obtain ⟨i0, hi, hz0, hz1, hz2⟩ := info_parts infoU
  obtain ⟨r, hr⟩ : ∃ x, x = rootF l := ⟨_, rfl⟩
  obtain ⟨x, hx⟩ : ∃ x, x = rootF (l.take k) := ⟨_, rfl⟩
  obtain ⟨y, hy⟩ : ∃ x, x = rootF (l.drop k) := ⟨_, rfl⟩
  obtain ⟨p, hp⟩ : ∃ x, x = inclF l j := ⟨_, rfl⟩
  have hp12 : p.length ≤ 12 := by rw [hp]; exact inclF_le (by omega)
  rw [← hr, ← hx, ← hy] at sp
  simp only [← hr, ← hx, ← hy, ← hp] at C1 C2 C3 C4
  simp only [← hx, ← hy] at il ir
  subst sp
  have p0 : (1 : Int) ≤ L := by omega
  have p1 : (L : Int) ≤ 60 := by omega
  have p2 : (0 : Int) ≤ k := by omega
  have p3 : (k : Int) ≤ c := by omega
  have p4 : (k : Int) ≤ L := by omega
  have p5 : (m : Int) < 256 := by omega
  have p6 : ¬ c = k := by omega
  have qf : decide ((L : Int) < 2) = false := decide_eq_false (by omega)
  have qf2 : decide (L < 2) = false := decide_eq_false (by omega)
  have HFE := hide (fun e (h1 : 2 ^ e < L) (h2 : L ≤ 2 * 2 ^ e) => (hf_eq h1 h2).trans hk.symm)
  have HP := hide hp12
  have L2 := hide (show 1 < L by omega)
  by_cases hjk : j < k
  · have d1 : decide ((k : Int) ≤ (j : Int)) = false := decide_eq_false (by omega)
    have d2 : decide (k ≤ j) = false := decide_eq_false (by omega)
    have C5 := hide fun W s => Inc_ok (some ⟨b, o, none⟩) c k (l.take k) j W hlt hjk (by omega) (by omega) s
    obtain ⟨q, hq⟩ : ∃ x, x = inclF (l.take k) j := ⟨_, rfl⟩
    have HPQ := hide (show p = q ++ [y] by rw [hp, hq]; exact il j hjk)
    have HQ := hide (show q.length ≤ 12 by have := congrArg List.length HPQ.out; simp at this; omega)
    simp only [← hq] at C5
    rw [← hL] at hlc HF ⊢
    clear hcut hfw h h1 h2 h3 hcell hL hj hr hx hy hp hq hmod hbl il ir hlt hld hk hp12 hjk s2 s3
    go_enter Tryd.func4, Tryd.ntmps4
    go_wp2_with (first
      | (go_at_call 10; refine (HH.out _).mono ?_; rintro e w1 ⟨rfl, h1⟩; have T := hide (T.out.then_ h1); have BB := hide (thenB BB.out h1); clear h1)
      | (go_at_call 24; with_reducible refine (HF.out _).mono ?_; rintro e w2 ⟨rfl, rfl⟩))
    go_loopw [6] (fun u wr => ∃ k' : Nat, u = .int .i64 k' ∧ (∃ e, k' = 2 ^ e) ∧ 1 ≤ k' ∧ k' < L ∧ wr = w1) (fun u _ => L - (intOf u).toNat)
    case atStart => exact ⟨1, rfl, ⟨0, rfl⟩, Nat.le_refl _, L2.out, rfl⟩
    case round =>
      obtain ⟨k', rfl, hpw, hk1, hkn, rfl⟩ := hrel
      have z1 : (0 : Int) ≤ (k' : Int) * 2 := by omega
      have z2 : (k' : Int) * 2 ≤ 20000 := by omega
      by_cases hlt : k' * 2 < L
      · have y1 : decide ((k' : Int) * 2 < (L : Int)) = true := decide_eq_true (by omega)
        have HPW := hide (show ∃ e, k' * 2 = 2 ^ e by obtain ⟨e, rfl⟩ := hpw; exact ⟨e + 1, by rw [Nat.pow_succ]⟩)
        clear hpw
        go_wp2
        go_roundw
        case rel => exact ⟨k' * 2, by go_num, HPW.out, by omega, hlt, by trivial⟩
        case measure => simp [intOf]; omega
      · have y1 : decide ((k' : Int) * 2 < (L : Int)) = false := decide_eq_false (by omega)
        obtain rfl : k' = k := by obtain ⟨e, rfl⟩ := hpw; exact HFE.out e hkn (by omega)
        clear hpw
        go_wp2_with (first
          | (go_at_call 11; with_reducible refine (C1.out _ (T.out.get (A := some ⟨b, o, none⟩) (l := l) (by simp))).mono ?_; rintro e w3 ⟨rfl, h3⟩; have T := hide (T.out.then_ h3); have BB := hide (thenB BB.out h3); clear h3)
          | (go_at_call 11; with_reducible refine (C2.out _ (P1.out _ T.out)).mono ?_; rintro e w4 ⟨rfl, h4⟩; have T := hide (T.out.then_ h4); have BB := hide (thenB BB.out h4); clear h4)
          | (go_at_call 11; with_reducible refine (C3.out _ (P2.out _ T.out)).mono ?_; rintro e w5 ⟨rfl, h5⟩; have T := hide (T.out.then_ h5); have BB := hide (thenB BB.out h5); clear h5)
          | (go_at_call 15; with_reducible refine (C4.out _ (T.out.get (A := some ⟨b, o, none⟩) (l := l) (by simp))).mono ?_; unfold RetKE; rintro e w6 ⟨A6, c6, rfl, l6, s6, h6⟩; have T := hide (T.out.then_ h6); have BB := hide (thenB BB.out h6); clear h6; have K6 := hide s6; clear s6)
          | (go_at_call 15; with_reducible refine (C5.out _ (P1.out _ T.out)).mono ?_; unfold RetKE; rintro e w7 ⟨A7, c7, rfl, l7, s7, h7⟩; have K6 := hide (K6.out.then_ h7); have T := hide (T.out.then_ h7); have BB := hide (thenB BB.out h7); clear h7; have K7 := hide s7; clear s7)
          | (go_at_call 25; refine (pair_any _ _ _).mono ?_; rintro e w8 ⟨rfl, h8⟩; have K6 := hide (K6.out.then_ h8); have K7 := hide (K7.out.then_ h8); have T := hide (T.out.then_ h8); have BB := hide (thenB BB.out h8); clear h8)
          | (at_builtin; (refine wpList_append_rdg _ (by rfl) _ _ 22 rfl w8.heap.size 23 i0 _ 1 8 Tryd.underlying22 hi hz0 hz1 hz2 rfl (by decide) _ 0 [] rfl (World.ownsRow_made w8 #[] 0 (Nat.le_refl _) (by simp [maxLen]) rfl) A7 q.length c7 (q.map (Value.int .u64)) rfl (by simp) (K7.out.alloc _) (kone _) ?c1 ?c2 ?c3 ?_); rotate_right; intro v9 w9 hown9 hgrow9 _; have hb9 := grown_made hgrow9; have O9 := hide (show OwnK .u64 23 w9 w8.heap.size v9 q by simpa [OwnK] using hown9); have HB9 := hide hb9; clear hown9 hgrow9 hb9)
          | (at_builtin; refine wpList_append_rdg _ (by rfl) _ _ 22 rfl w8.heap.size 23 i0 _ 1 8 Tryd.underlying22 hi hz0 hz1 hz2 rfl (by decide) _ q.length _ rfl (O9.out.below ((Below.refl _ _).alloc (Nat.le_refl _) _)) _ 1 1 [.int .u64 y] rfl rfl (Rd.new_row _ _ _) (kone [y]) ?c4 ?c5 ?c6 ?_; rotate_right; intro v10 w10 hown10 hgrow10 _; have O10 := hide (show OwnK .u64 23 w10 w8.heap.size v10 (q ++ [y]) from OwnK.snoc hown10 rfl rfl); have hb10 := (HB9.out.alloc HB9.out.size (.cells #[.int .u64 y] 23)).grown hgrow10 (HB9.out.alloc HB9.out.size (.cells #[.int .u64 y] 23)).size (fun g hg => (World.ownsRow.lt O9.out g hg).1); have ho10 := O10.out; rw [← HPQ.out] at ho10; obtain ⟨A10, c10, rfl, _, _, s10⟩ := ho10.form; have K10 := hide s10; have K6 := hide (K6.out.then_ hb10); have BB := hide (thenB BB.out hb10); clear hown10 hgrow10 hb10 ho10 s10)
          | (go_at_call 17; with_reducible refine (sameK A6 A10 c6 c10 p.length p.length p _ K6.out K10.out rfl rfl (by have := HP.out; omega)).mono ?_; rintro e w11 ⟨rfl, h11⟩; have BB := hide (thenB BB.out h11); clear h11))
        case c1 => have := HQ.out; simp only [maxLen]; omega
        case c2 => have := HQ.out; omega
        case c3 => simp
        case c4 => have := HQ.out; simp only [maxLen]; omega
        case c5 => have := HQ.out; omega
        case c6 => have := HB9.out.size; simp; omega
        go_ret
        exact ⟨rfl, BB.out⟩
  · have d1 : decide ((k : Int) ≤ (j : Int)) = true := decide_eq_true (by omega)
    have d2 : decide (k ≤ j) = true := decide_eq_true (by omega)
    have C5 := hide fun W s => Inc_ok (some ⟨b, o + k, none⟩) (c - k) (L - k) (l.drop k) (j - k) W hld (by omega) (by omega) (by omega) s
    rw [show ((j - k : Nat) : Int) = (j : Int) - k by omega] at C5
    have y8 : (0 : Int) ≤ (j : Int) - k := by omega
    have y9 : (j : Int) - k ≤ 100 := by omega
    obtain ⟨q, hq⟩ : ∃ x, x = inclF (l.drop k) (j - k) := ⟨_, rfl⟩
    have HPQ := hide (show p = q ++ [x] by rw [hp, hq]; exact ir j hjk)
    have HQ := hide (show q.length ≤ 12 by have := congrArg List.length HPQ.out; simp at this; omega)
    simp only [← hq] at C5
    rw [← hL] at hlc HF ⊢
    clear hcut hfw h h1 h2 h3 hcell hL hj hr hx hy hp hq hmod hbl il ir hlt hld hk hp12 hjk s2 s3
    go_enter Tryd.func4, Tryd.ntmps4
    go_wp2_with (first
      | (go_at_call 10; refine (HH.out _).mono ?_; rintro e w1 ⟨rfl, h1⟩; have T := hide (T.out.then_ h1); have BB := hide (thenB BB.out h1); clear h1)
      | (go_at_call 24; with_reducible refine (HF.out _).mono ?_; rintro e w2 ⟨rfl, rfl⟩))
    go_loopw [6] (fun u wr => ∃ k' : Nat, u = .int .i64 k' ∧ (∃ e, k' = 2 ^ e) ∧ 1 ≤ k' ∧ k' < L ∧ wr = w1) (fun u _ => L - (intOf u).toNat)
    case atStart => exact ⟨1, rfl, ⟨0, rfl⟩, Nat.le_refl _, L2.out, rfl⟩
    case round =>
      obtain ⟨k', rfl, hpw, hk1, hkn, rfl⟩ := hrel
      have z1 : (0 : Int) ≤ (k' : Int) * 2 := by omega
      have z2 : (k' : Int) * 2 ≤ 20000 := by omega
      by_cases hlt : k' * 2 < L
      · have y1 : decide ((k' : Int) * 2 < (L : Int)) = true := decide_eq_true (by omega)
        have HPW := hide (show ∃ e, k' * 2 = 2 ^ e by obtain ⟨e, rfl⟩ := hpw; exact ⟨e + 1, by rw [Nat.pow_succ]⟩)
        clear hpw
        go_wp2
        go_roundw
        case rel => exact ⟨k' * 2, by go_num, HPW.out, by omega, hlt, by trivial⟩
        case measure => simp [intOf]; omega
      · have y1 : decide ((k' : Int) * 2 < (L : Int)) = false := decide_eq_false (by omega)
        obtain rfl : k' = k := by obtain ⟨e, rfl⟩ := hpw; exact HFE.out e hkn (by omega)
        clear hpw
        go_wp2_with (first
          | (go_at_call 11; with_reducible refine (C1.out _ (T.out.get (A := some ⟨b, o, none⟩) (l := l) (by simp))).mono ?_; rintro e w3 ⟨rfl, h3⟩; have T := hide (T.out.then_ h3); have BB := hide (thenB BB.out h3); clear h3)
          | (go_at_call 11; with_reducible refine (C2.out _ (P1.out _ T.out)).mono ?_; rintro e w4 ⟨rfl, h4⟩; have T := hide (T.out.then_ h4); have BB := hide (thenB BB.out h4); clear h4)
          | (go_at_call 11; with_reducible refine (C3.out _ (P2.out _ T.out)).mono ?_; rintro e w5 ⟨rfl, h5⟩; have T := hide (T.out.then_ h5); have BB := hide (thenB BB.out h5); clear h5)
          | (go_at_call 15; with_reducible refine (C4.out _ (T.out.get (A := some ⟨b, o, none⟩) (l := l) (by simp))).mono ?_; unfold RetKE; rintro e w6 ⟨A6, c6, rfl, l6, s6, h6⟩; have T := hide (T.out.then_ h6); have BB := hide (thenB BB.out h6); clear h6; have K6 := hide s6; clear s6)
          | (go_at_call 15; with_reducible refine (C5.out _ (P2.out _ T.out)).mono ?_; unfold RetKE; rintro e w7 ⟨A7, c7, rfl, l7, s7, h7⟩; have K6 := hide (K6.out.then_ h7); have T := hide (T.out.then_ h7); have BB := hide (thenB BB.out h7); clear h7; have K7 := hide s7; clear s7)
          | (go_at_call 25; refine (pair_any _ _ _).mono ?_; rintro e w8 ⟨rfl, h8⟩; have K6 := hide (K6.out.then_ h8); have K7 := hide (K7.out.then_ h8); have T := hide (T.out.then_ h8); have BB := hide (thenB BB.out h8); clear h8)
          | (at_builtin; (refine wpList_append_rdg _ (by rfl) _ _ 22 rfl w8.heap.size 23 i0 _ 1 8 Tryd.underlying22 hi hz0 hz1 hz2 rfl (by decide) _ 0 [] rfl (World.ownsRow_made w8 #[] 0 (Nat.le_refl _) (by simp [maxLen]) rfl) A7 q.length c7 (q.map (Value.int .u64)) rfl (by simp) (K7.out.alloc _) (kone _) ?g1 ?g2 ?g3 ?_); rotate_right; intro v9 w9 hown9 hgrow9 _; have hb9 := grown_made hgrow9; have O9 := hide (show OwnK .u64 23 w9 w8.heap.size v9 q by simpa [OwnK] using hown9); have HB9 := hide hb9; clear hown9 hgrow9 hb9)
          | (at_builtin; refine wpList_append_rdg _ (by rfl) _ _ 22 rfl w8.heap.size 23 i0 _ 1 8 Tryd.underlying22 hi hz0 hz1 hz2 rfl (by decide) _ q.length _ rfl (O9.out.below ((Below.refl _ _).alloc (Nat.le_refl _) _)) _ 1 1 [.int .u64 x] rfl rfl (Rd.new_row _ _ _) (kone [x]) ?g4 ?g5 ?g6 ?_; rotate_right; intro v10 w10 hown10 hgrow10 _; have O10 := hide (show OwnK .u64 23 w10 w8.heap.size v10 (q ++ [x]) from OwnK.snoc hown10 rfl rfl); have hb10 := (HB9.out.alloc HB9.out.size (.cells #[.int .u64 x] 23)).grown hgrow10 (HB9.out.alloc HB9.out.size (.cells #[.int .u64 x] 23)).size (fun g hg => (World.ownsRow.lt O9.out g hg).1); have ho10 := O10.out; rw [← HPQ.out] at ho10; obtain ⟨A10, c10, rfl, _, _, s10⟩ := ho10.form; have K10 := hide s10; have K6 := hide (K6.out.then_ hb10); have BB := hide (thenB BB.out hb10); clear hown10 hgrow10 hb10 ho10 s10)
          | (go_at_call 17; with_reducible refine (sameK A6 A10 c6 c10 p.length p.length p _ K6.out K10.out rfl rfl (by have := HP.out; omega)).mono ?_; rintro e w11 ⟨rfl, h11⟩; have BB := hide (thenB BB.out h11); clear h11))
        case g1 => have := HQ.out; simp only [maxLen]; omega
        case g2 => have := HQ.out; omega
        case g3 => simp
        case g4 => have := HQ.out; simp only [maxLen]; omega
        case g5 => have := HQ.out; omega
        case g6 => have := HB9.out.size; simp; omega
        go_ret
        exact ⟨rfl, BB.out⟩
end Go.Proofs.YtijnjgjpmgmifaaDoor
