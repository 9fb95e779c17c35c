/-
  The walk of versions.last.
-/
import Derived.Test.YtficjpfhakggmaaBs
namespace Go.Proofs.Ytficjpfhakggmaa
open Go.RowKit
set_option maxHeartbeats 1000000 in
theorem last_any (A : Option Addr) (c : Nat) (l : List Ver) (k t : Int) (N : Nat) (w : World) (hn : l.length ≤ 4611686018427387904) (h : VS w A l) (hN : UpTo l k t N) :
    Calls Try.prog 67 #[.slice A l.length c, .int .i64 k, .int .i64 t] w
      fun e w' => e = .returned (lastN l k N).val ∧ Below w.heap.size w w' := by
  have hNl := hN.le
  by_cases h0 : N = 0
  · have hl0 : lastN l k N = Ver.zero := by simp [lastN, h0]
    have HL := hide hl0
    have HN := hide hN
    subst h0
    clear hN hl0
    go_enter Try.func67, Try.ntmps67
    go_wp2_with (go_at_call 93; with_reducible refine (upTo_any A c l k t 0 _ hn (h.alloc _) HN.out).mono ?_; rintro e w1 ⟨rfl, hb⟩; have q := (Blk.new _ _ _).below hb (by simp); have qc := q.cell; have qf := q.frozen; clear q)
    refine bodyPost_ret (v := Ver.zero.val) (by simp [results, Try.results67, go_sem, qc, Ver.zero, Ver.val]) rfl ⟨by rw [HL.out], ?_⟩
    exact ((((((Below.refl _ _).alloc (Nat.le_refl _) _).trans (hb.mono (by simp))).setCell (p := ⟨w.heap.size, 0, none⟩) (Nat.le_refl _) _).setCell (p := ⟨w.heap.size, 1, none⟩) (Nat.le_refl _) _).setCell (p := ⟨w.heap.size, 2, none⟩) (Nat.le_refl _) _).setCell (p := ⟨w.heap.size, 3, none⟩) (Nat.le_refl _) _
  · have hlt : N - 1 < l.length := by omega
    have hg : l.getD (N - 1) Ver.zero = l[N - 1] := by simp [hlt]
    obtain ⟨b, o, rfl, hb0, hc⟩ := h.at_ hlt
    have c0 := hc (N - 1) hlt
    have i0 : (0 : Int) ≤ (N : Int) - 1 := by omega
    have i1 : (N : Int) - 1 < l.length := by omega
    have i2 : (N : Int) ≤ 4611686018427387904 := by omega
    have g0 : decide (0 < N) = true := decide_eq_true (by omega)
    have HN := hide hN
    have H0 := hide h0
    clear hN h0 hc
    by_cases hk : l[N - 1].key = k
    · have hl0 : lastN l k N = l[N - 1] := by unfold lastN; rw [hg, if_pos ⟨H0.out, hk⟩]
      have HL := hide hl0
      have k0 : (l[N - 1].key == k) = true := by simp [hk]
      clear hl0 hg hk
      go_enter Try.func67, Try.ntmps67
      go_wp2_with (go_at_call 93; with_reducible refine (upTo_any (some ⟨b, o, none⟩) c l k t N _ hn (h.alloc _) HN.out).mono ?_; rintro e w1 ⟨rfl, hb⟩; have q := (Blk.new _ _ _).below hb (by simp); have qc := q.cell; have qf := q.frozen; clear q; have c1 := (c0.below ((Below.refl _ _).alloc (Nat.le_refl _) _) hb0).below hb (by simp; omega); unfold VAt at c1)
      refine bodyPost_ret (v := l[N - 1].val) (by simp [results, Try.results67, go_sem, qc, Ver.val]) rfl ⟨by rw [HL.out], ?_⟩
      exact ((((((Below.refl _ _).alloc (Nat.le_refl _) _).trans (hb.mono (by simp))).setCell (p := ⟨w.heap.size, 0, none⟩) (Nat.le_refl _) _).setCell (p := ⟨w.heap.size, 1, none⟩) (Nat.le_refl _) _).setCell (p := ⟨w.heap.size, 2, none⟩) (Nat.le_refl _) _).setCell (p := ⟨w.heap.size, 3, none⟩) (Nat.le_refl _) _
    · have hl0 : lastN l k N = Ver.zero := by unfold lastN; rw [hg, if_neg (fun h => hk h.2)]
      have HL := hide hl0
      have k0 : (l[N - 1].key == k) = false := by simp [hk]
      clear hl0 hg hk
      go_enter Try.func67, Try.ntmps67
      go_wp2_with (go_at_call 93; with_reducible refine (upTo_any (some ⟨b, o, none⟩) c l k t N _ hn (h.alloc _) HN.out).mono ?_; rintro e w1 ⟨rfl, hb⟩; have q := (Blk.new _ _ _).below hb (by simp); have qc := q.cell; have qf := q.frozen; clear q; have c1 := (c0.below ((Below.refl _ _).alloc (Nat.le_refl _) _) hb0).below hb (by simp; omega); unfold VAt at c1)
      refine bodyPost_ret (v := Ver.zero.val) (by simp [results, Try.results67, go_sem, qc, Ver.zero, Ver.val]) rfl ⟨by rw [HL.out], ?_⟩
      exact ((((((Below.refl _ _).alloc (Nat.le_refl _) _).trans (hb.mono (by simp))).setCell (p := ⟨w.heap.size, 0, none⟩) (Nat.le_refl _) _).setCell (p := ⟨w.heap.size, 1, none⟩) (Nat.le_refl _) _).setCell (p := ⟨w.heap.size, 2, none⟩) (Nat.le_refl _) _).setCell (p := ⟨w.heap.size, 3, none⟩) (Nat.le_refl _) _
end Go.Proofs.Ytficjpfhakggmaa
