/-
  The walk of the law TreeIncludes.
-/
import Derived.Test.YtijnjgjpmgmifaaDoorLx24
namespace Go.Proofs.YtijnjgjpmgmifaaDoor
open Go.RowKit
/-- a store into a row that the call has made -/
theorem OwnK.put {e : TypeId} {w : World} {base : Nat} {v : Value} {l : List Int} (h : OwnK .u64 e w base v l) {i : Nat} (hi : i < l.length) (x : Int) :
    ∃ g c, v = .slice (some ⟨g, 0, none⟩) l.length c ∧ l.length ≤ c ∧ base ≤ g ∧ g < w.heap.size ∧ w.cell? ⟨g, i, none⟩ = some (.int .u64 (l.getD i 0)) ∧ w.frozen? ⟨g, i, none⟩ = false ∧ KS .u64 (w.setCell ⟨g, i, none⟩ (.int .u64 x)) (some ⟨g, 0, none⟩) (l.set i x) := by
  obtain ⟨hl, hform⟩ := h
  rcases hform with ⟨hv, h0⟩ | ⟨g, cap, cur, hv, hg, hh, hnc, hcm, hcs, htake⟩
  · omega
  · have hB : Blk w g e cur := hh
    have hst : ∀ i (hi : i < l.length), cur[i]? = some (.int .u64 l[i]) := fun i hi => by
      have h1 : (cur.toList.take (l.length * 1))[i]? = (l.map (Value.int .u64))[i]? := by rw [htake]
      rw [List.getElem?_take_of_lt (by omega), Array.getElem?_toList, List.getElem?_map, List.getElem?_eq_getElem hi] at h1
      exact h1
    have hB2 := hB.set_ i (.int .u64 x)
    refine ⟨g, cap, hv, hnc, hg, hB.lt, ?_, hB.frozen i, fun _ => ⟨g, 0, rfl, hB2.lt, fun j u hu => ?_⟩⟩
    · rw [hB.cell, hst i hi, List.getD_eq_getElem?_getD, List.getElem?_eq_getElem hi]; rfl
    · rw [hB2.cell, Nat.zero_add]
      obtain ⟨hj, hu⟩ := List.getElem?_eq_some_iff.1 hu
      have hj' : j < l.length := by simpa using hj
      rw [List.getElem_map, List.getElem_set] at hu
      rw [Array.getElem?_setIfInBounds]
      have hsz : i < cur.size := by omega
      by_cases hij : i = j
      · subst hij
        rw [if_pos rfl, if_pos hsz]
        rw [if_pos rfl] at hu
        exact congrArg some hu
      · rw [if_neg hij, hst j hj']
        rw [if_neg hij] at hu
        exact congrArg some hu
set_option maxHeartbeats 8000000 in
theorem includes_walk (A : Option Addr) (c : Nat) (l : List Int) (m : Nat) (o2 : Int) (w : World) (hlc : l.length ≤ c) (hm : m < 256) (h : KS .u64 w A l) :
    Calls Tryd.prog 5 #[.slice A l.length c, .int .u8 m, .int .u64 o2] w fun e w' => e = .returned (.bool true) ∧ Below w.heap.size w w' := by
  have HH := hide head_any
  have BB := hide (Below.refl w.heap.size w)
  have HF := hide fun W => few_any A c l W
  cases hf : fewB l
  · rw [hf] at HF
    clear hf h
    go_enter Tryd.func5, Tryd.ntmps5
    go_wp2_with (first
      | (go_at_call 10; refine (HH.out _).mono ?_; rintro e w1 ⟨rfl, h1⟩; have BB := hide (thenB BB.out h1); clear h1)
      | (go_at_call 24; with_reducible refine (HF.out _).mono ?_; rintro e w2 ⟨rfl, rfl⟩))
    go_ret
    exact ⟨rfl, BB.out⟩
  · obtain ⟨h1, h2⟩ := fewB_iff.1 hf
    rw [hf] at HF
    have T := hide (AllK.one h)
    obtain ⟨b, o, rfl, hbl, hcell⟩ := h.at_ (i := 0) (by omega)
    obtain ⟨L, hL⟩ : ∃ L, L = l.length := ⟨_, rfl⟩
    have hmod : m % L < L := Nat.mod_lt _ (by omega)
    obtain ⟨j, hj⟩ : ∃ j, j = m % L := ⟨_, rfl⟩
    have e1 : (m : Int) % (L : Int) = (j : Int) := by rw [hj]; rfl
    have e2 : Int.tmod (m : Int) (L : Int) = (j : Int) := by rw [Int.tmod_eq_emod_of_nonneg (by omega)]; exact e1
    rw [← hj] at hmod
    have hjl : j < l.length := by omega
    obtain ⟨cx, hcx⟩ : ∃ x, x = l[j] := ⟨_, rfl⟩
    have C1 := hide fun W s => Root_ok (some ⟨b, o, none⟩) c L l W hL.symm (by omega) (by omega) (by omega) s
    have C2 := hide fun A' c' W hc s => Root_ok A' c' L (l.set j o2) W (by simp [hL]) (by omega) (by omega) hc s
    have C3 := hide fun W s => Inc_ok (some ⟨b, o, none⟩) c L l j W hL.symm hmod (by omega) (by omega) s
    have V0 := @inclS_law l j cx (rootF l) hjl (by omega)
    rw [hcx, set_self hjl, decide_eq_true rfl, ← hcx, ← hL] at V0
    have V1 := @inclS_law l j o2 (rootF l) hjl (by omega)
    rw [← hL] at V1
    have C4 := hide fun A' c' W s => included_any (rootF l) cx j L A' c' (inclF l j) W (by have := inclF_le (l := l) (i := j) (by omega); omega) s
    have C5 := hide fun A' c' W s => included_any (rootF l) o2 j L A' c' (inclF l j) W (by have := inclF_le (l := l) (i := j) (by omega); omega) s
    rw [V0] at C4
    rw [V1] at C5
    have PP := hide (fun (W : World) (v : Value) (B : Nat) (ho : OwnK .u64 23 W B v l) => ho.put hjl o2)
    have CX := hide (fun (W : World) (s : AllK W [(some ⟨b, o, none⟩, l)]) => (show W.cell? ⟨b, o + j, none⟩ = some (.int .u64 cx) by
      obtain ⟨b', o', hA, _, hc⟩ := (s.get (A := some ⟨b, o, none⟩) (l := l) (by simp)).at_ (i := j) hjl
      injection hA with hA; injection hA with hA1 hA2; subst hA1; subst hA2
      rw [hcx]; exact hc j hjl))
    obtain ⟨i0, hi, hz0, hz1, hz2⟩ := info_parts infoU
    obtain ⟨x, hx⟩ : ∃ x, x = rootF l := ⟨_, rfl⟩
    obtain ⟨y, hy⟩ : ∃ x, x = rootF (l.set j o2) := ⟨_, rfl⟩
    obtain ⟨q, hq⟩ : ∃ x, x = inclF l j := ⟨_, rfl⟩
    simp only [← hx, ← hy, ← hq] at C1 C2 C3 C4 C5
    rw [show decide (y = x) = (y == x) from rfl] at C5
    have KL := hide (kone (k := .u64) l)
    have LM := hide (show (l.map (Value.int .u64)).length = L * 1 by simp [hL])
    have L60 := hide (show L ≤ 60 by omega)
    rw [← hL] at hlc HF PP ⊢
    have p0 : (1 : Int) ≤ L := by omega
    have p1 : (L : Int) ≤ 60 := by omega
    have p2 : (0 : Int) ≤ j := by omega
    have p3 : (j : Int) < L := by omega
    have p5 : (m : Int) < 256 := by omega
    have HHL := hide hL
    clear hf h h1 h2 hcell hL hj hx hy hq hcx hjl V0 V1 hmod hbl
    go_enter Tryd.func5, Tryd.ntmps5
    go_upto_region 7 with (first
      | (go_at_call 10; refine (HH.out _).mono ?_; rintro e w1 ⟨rfl, h1⟩; have T := hide (T.out.then_ h1); have BB := hide (thenB BB.out h1); clear h1)
      | (go_at_call 24; with_reducible refine (HF.out _).mono ?_; rintro e w2 ⟨rfl, rfl⟩)
      | (go_at_call 11; with_reducible refine (C1.out _ (T.out.get (A := some ⟨b, o, none⟩) (l := l) (by simp))).mono ?_; rintro e w3 ⟨rfl, h3⟩; have T := hide (T.out.then_ h3); have BB := hide (thenB BB.out h3); clear h3)
      | (go_at_call 15; with_reducible refine (C3.out _ (T.out.get (A := some ⟨b, o, none⟩) (l := l) (by simp))).mono ?_; unfold RetKE; rintro e w5 ⟨A5, c5, rfl, l5, s5, h5⟩; have T := hide (T.out.then_ h5); have BB := hide (thenB BB.out h5); clear h5; have K5 := hide s5; clear s5))
    go_wp2_with (at_builtin; refine wpList_append_rd _ rfl _ _ 22 rfl w5.heap.size 23 i0 _ 1 8 Tryd.underlying22 hi hz0 hz1 hz2 rfl (by decide) _ 0 [] rfl (World.ownsRow_made w5 #[] 0 (Nat.le_refl _) (by simp [maxLen]) rfl) (some ⟨b, o, none⟩) L c (l.map (Value.int .u64)) rfl LM.out ((T.out.get (A := some ⟨b, o, none⟩) (l := l) (by simp)).alloc _) KL.out ?_ ?_ ?_ ?_)
    · have := L60.out
      simp only [maxLen]; omega
    · have := L60.out
      omega
    · simp
    · intro v6 w6 hown6 hgrow6 _
      have hb6 := ((Below.refl w5.heap.size w5).alloc (Nat.le_refl _) (.cells #[] 23)).grown hgrow6 (by simp) (fun k hk => by simp [Value.ownBlock] at hk; omega)
      obtain ⟨g, c6, rfl, hc6, hg6, hlt6, hcell6, hfr6, hks6⟩ := PP.out w6 v6 w5.heap.size (by simpa [OwnK, HHL.out] using hown6)
      have hb7 := hb6.setCell (p := ⟨g, j, none⟩) hg6 (.int .u64 o2)
      have T := hide (T.out.then_ hb7)
      have K5 := hide (K5.out.then_ hb7)
      have BB := hide (thenB BB.out hb7)
      have K6 := hide hks6
      clear hown6 hgrow6 hb6 hks6 hb7
      go_wp2_with (first
        | (go_at_call 11; with_reducible refine (C2.out _ _ _ hc6 K6.out).mono ?_; rintro e w4 ⟨rfl, h4⟩; have cx4 := CX.out _ (T.out.then_ h4); have K5 := hide (K5.out.then_ h4); have T := hide (T.out.then_ h4); have BB := hide (thenB BB.out h4); clear h4)
        | (go_at_call 20; with_reducible refine (C4.out A5 c5 _ K5.out).mono ?_; rintro e w7 ⟨rfl, h7⟩; have K5 := hide (K5.out.then_ h7); have T := hide (T.out.then_ h7); have BB := hide (thenB BB.out h7); clear h7)
        | (go_at_call 20; with_reducible refine (C5.out A5 c5 _ K5.out).mono ?_; rintro e w8 ⟨rfl, h8⟩; have K5 := hide (K5.out.then_ h8); have T := hide (T.out.then_ h8); have BB := hide (thenB BB.out h8); clear h8))
      go_ret
      exact ⟨rfl, BB.out⟩
end Go.Proofs.YtijnjgjpmgmifaaDoor
