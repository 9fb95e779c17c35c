/-
  The walks of the laws TreeExtends and TreeOthers.
-/
import Derived.Test.YtijnjgjpmgmifaaDoorHd24
namespace Go.Proofs.YtijnjgjpmgmifaaDoor
open Go.RowKit
theorem fewB_iff {l : List Int} : fewB l = true ↔ 1 ≤ l.length ∧ l.length ≤ 60 := by unfold fewB; simp
set_option maxHeartbeats 8000000 in
theorem extends_walk (A : Option Addr) (c : Nat) (l : List Int) (m : Nat) (w : World) (hlc : l.length ≤ c) (hm : m < 256) (h : KS .u64 w A l) :
    Calls Tryd.prog 6 #[.slice A l.length c, .int .u8 m] w fun e w' => e = .returned (.bool true) ∧ Below w.heap.size w w' := by
  have HH := hide head_any
  have BB := hide (Below.refl w.heap.size w)
  have HF := hide fun W => few_any A c l W
  cases hf : fewB l
  · rw [hf] at HF
    clear hf h
    go_enter Tryd.func6, Tryd.ntmps6
    go_wp2_with (first
      | (go_at_call 10; refine (HH.out _).mono ?_; rintro e w1 ⟨rfl, h1⟩; have BB := hide (thenB BB.out h1); clear h1)
      | (go_at_call 24; with_reducible refine (HF.out _).mono ?_; rintro e w2 ⟨rfl, rfl⟩))
    go_ret
    exact ⟨rfl, BB.out⟩
  · obtain ⟨h1, h2⟩ := fewB_iff.1 hf
    rw [hf] at HF
    have T := hide (AllK.one h)
    obtain ⟨b, o, rfl, hbl, hcell⟩ := h.at_ (i := 0) (by omega)
    obtain ⟨L, hL⟩ : ∃ L, L = l.length := ⟨_, rfl⟩
    have hmod : m % L < L := Nat.mod_lt _ (by omega)
    obtain ⟨j, hj⟩ : ∃ j, j = m % L := ⟨_, rfl⟩
    have e1 : (m : Int) % (L : Int) = (j : Int) := by rw [hj]; rfl
    have e2 : Int.tmod (m : Int) (L : Int) = (j : Int) := by rw [Int.tmod_eq_emod_of_nonneg (by omega)]; exact e1
    rw [← hj] at hmod
    obtain ⟨k, hk⟩ : ∃ k, k = 1 + j := ⟨_, rfl⟩
    have e3 : (1 : Int) + (j : Int) = (k : Int) := by omega
    have k1 : 1 ≤ k := by omega
    have k2 : k ≤ L := by omega
    have hlen : (l.take k).length = k := by simp; omega
    have C1 := hide fun W s => Root_ok (some ⟨b, o, none⟩) c k (l.take k) W hlen k1 (by omega) (by omega) s
    have C2 := hide fun W s => Root_ok (some ⟨b, o, none⟩) c L l W hL.symm (by omega) (by omega) (by omega) s
    have C3 := hide fun W s => Ext_ok (some ⟨b, o, none⟩) c L l k W hL.symm k1 k2 (by omega) (by omega) s
    have C4 := hide fun A' c' W hc s => Extended_any (rootF (l.take k)) (rootF l) k L A' c' (extF l k true) W (by have := extF_le (l := l) (m := k) (mark := true) (by omega); omega) hc s
    rw [show growS (rootF (l.take k)) (rootF l) k L (extF l k true) = true by rw [hL]; exact growS_law k1 (by omega) (by omega)] at C4
    obtain ⟨x, hx⟩ : ∃ x, x = rootF (l.take k) := ⟨_, rfl⟩
    obtain ⟨y, hy⟩ : ∃ x, x = rootF l := ⟨_, rfl⟩
    obtain ⟨q, hq⟩ : ∃ x, x = extF l k true := ⟨_, rfl⟩
    simp only [← hx, ← hy, ← hq] at C1 C2 C3 C4
    have P := hide (fun W (s : AllK W [(some ⟨b, o, none⟩, l)]) => (s.get (A := some ⟨b, o, none⟩) (l := l) (by simp)).pre k)
    rw [← hL] at hlc HF ⊢
    have p0 : (1 : Int) ≤ L := by omega
    have p1 : (L : Int) ≤ 60 := by omega
    have p2 : (0 : Int) ≤ k := by omega
    have p3 : (k : Int) ≤ c := by omega
    have p4 : (k : Int) ≤ L := by omega
    have p5 : (m : Int) < 256 := by omega
    clear hf h h1 h2 hcell hL hmod hj hk hlen hx hy hq
    go_enter Tryd.func6, Tryd.ntmps6
    go_wp2_with (first
      | (go_at_call 10; refine (HH.out _).mono ?_; rintro e w1 ⟨rfl, h1⟩; have T := hide (T.out.then_ h1); have BB := hide (thenB BB.out h1); clear h1)
      | (go_at_call 24; with_reducible refine (HF.out _).mono ?_; rintro e w2 ⟨rfl, rfl⟩)
      | (go_at_call 11; with_reducible refine (C1.out _ (P.out _ T.out)).mono ?_; rintro e w3 ⟨rfl, h3⟩; have T := hide (T.out.then_ h3); have BB := hide (thenB BB.out h3); clear h3)
      | (go_at_call 11; with_reducible refine (C2.out _ (T.out.get (A := some ⟨b, o, none⟩) (l := l) (by simp))).mono ?_; rintro e w4 ⟨rfl, h4⟩; have T := hide (T.out.then_ h4); have BB := hide (thenB BB.out h4); clear h4)
      | (go_at_call 18; with_reducible refine (C3.out _ (T.out.get (A := some ⟨b, o, none⟩) (l := l) (by simp))).mono ?_; unfold RetKE; rintro e w5 ⟨A5, c5, rfl, l5, s5, h5⟩; have T := hide (T.out.then_ h5); have BB := hide (thenB BB.out h5); clear h5; have K5 := hide s5; clear s5)
      | (go_at_call 22; with_reducible refine (C4.out A5 c5 _ l5 K5.out).mono ?_; rintro e w6 ⟨rfl, h6⟩; have T := hide (T.out.then_ h6); have BB := hide (thenB BB.out h6); clear h6))
    go_ret
    exact ⟨rfl, BB.out⟩
end Go.Proofs.YtijnjgjpmgmifaaDoor
