/-
  The walks of versions.At and versions.Newest.
-/
import Derived.Test.YtficjpfhakggmaaLast
import Derived.Test.YtficjpfhakggmaaEqV
import Derived.Test.YtficjpfhakggmaaPl33r
namespace Go.Proofs.Ytficjpfhakggmaa
open Go.RowKit
/-- versions.Newest -/
def newestS (l : List Ver) (k : Int) : Int × Int := if !validB l || !keyB k then (0, 1) else ((lastV l k 3000000000000000).ts, 0)
/-- versions.At -/
def atS (l : List Ver) (k t : Int) : Ver × Bool × Int :=
  if !validB l || !keyB k || !stampB t then (Ver.zero, false, 1) else if lastV l k t = Ver.zero ∨ (lastV l k t).gone = true then (Ver.zero, false, 0) else (lastV l k t, true, 0)
def RetVBE (w0 : World) (r : Ver × Bool × Int) (e : Ending) (w' : World) : Prop :=
  e = .returned (.tuple #[.agg #[.int .i64 r.1.key, .int .i64 r.1.ts, .int .i64 r.1.value, .bool r.1.gone], .bool r.2.1, .int .i64 r.2.2]) ∧ Below w0.heap.size w0 w'
set_option maxHeartbeats 1000000 in
theorem at_any (A : Option Addr) (c : Nat) (l : List Ver) (k t : Int) (w : World) (hn : l.length ≤ 9223372036854775807) (h : VS w A l) :
    Calls Try.prog 30 #[.slice A l.length c, .int .i64 k, .int .i64 t] w (RetVBE w (atS l k t)) := by
  have hkB : (decide (1 ≤ k) && decide (k ≤ 1000)) = keyB k := rfl
  have htB : (decide (1 ≤ t) && decide (t ≤ 3000000000000000)) = stampB t := rfl
  by_cases hbad : (!validB l || !keyB k || !stampB t) = true
  · have hp : atS l k t = (Ver.zero, false, 1) := by unfold atS; rw [if_pos hbad]
    have HP := hide hp
    clear hp
    have hcases : validB l = false ∨ (validB l = true ∧ keyB k = false) ∨ (validB l = true ∧ keyB k = true ∧ stampB t = false) := by
      cases hv : validB l <;> cases hk : keyB k <;> cases ht : stampB t <;> simp_all
    clear hbad
    rcases hcases with hv | ⟨hv, hk⟩ | ⟨hv, hk, ht⟩
    all_goals
      go_enter Try.func30, Try.ntmps30
      go_wp2_with (first | (go_at_call 54; with_reducible refine (valid_any A c l _ (by omega) (h.alloc _)).mono ?_; rw [hv]; rintro e w1 ⟨rfl, hb⟩; have q := (Blk.new _ _ _).below hb (by simp); have qc := q.cell; have qf := q.frozen; clear q) | (go_at_call 65; refine (isKey_any _ _).mono ?_; rw [hkB, hk]; rintro e w2 ⟨rfl, rfl⟩) | (go_at_call 66; refine (isStamp_any _ _).mono ?_; rw [htB, ht]; rintro e w2 ⟨rfl, rfl⟩))
      refine bodyPost_ret (v := .tuple #[.agg #[.int .i64 0, .int .i64 0, .int .i64 0, .bool false], .bool false, .int .i64 1]) (by simp [results, Try.results30, go_sem, qc]) rfl ⟨by rw [HP.out]; rfl, ?_⟩
      exact ((((((Below.refl _ _).alloc (Nat.le_refl _) _).trans (hb.mono (by simp))).setCell (p := ⟨w.heap.size, 0, none⟩) (Nat.le_refl _) _).setCell (p := ⟨w.heap.size, 1, none⟩) (Nat.le_refl _) _).setCell (p := ⟨w.heap.size, 2, none⟩) (Nat.le_refl _) _).setCell (p := ⟨w.heap.size, 3, none⟩) (Nat.le_refl _) _
  · have hcases : validB l = true ∧ keyB k = true ∧ stampB t = true := by
      cases hv : validB l <;> cases hk : keyB k <;> cases ht : stampB t <;> simp_all
    obtain ⟨hv, hk, ht⟩ := hcases
    have hst := (sto_iff l).1 hv
    have hn : l.length ≤ 4611686018427387904 := by have := hst.len; omega
    have hp : atS l k t = if lastV l k t = Ver.zero ∨ (lastV l k t).gone = true then (Ver.zero, false, 0) else (lastV l k t, true, 0) := by unfold atS; rw [if_neg hbad]
    clear hbad
    obtain ⟨x, hx⟩ : ∃ x, x = lastV l k t := ⟨_, rfl⟩
    rw [← hx] at hp
    have hlast := fun w1 h1 => last_any A c l k t (upN l k t) w1 hn h1 (upN_spec hst.up _ _)
    change ∀ w1 h1, Calls _ _ _ w1 (fun e w' => e = .returned (lastV l k t).val ∧ Below w1.heap.size w1 w') at hlast
    rw [← hx] at hlast
    have HX := hide hx
    have HP := hide hp
    have HL := hide hlast
    clear hx hp hlast
    obtain ⟨xk, xt, xv, xg⟩ := x
    have hbad2 : (eqB xk xt xv xg 0 0 0 false = true ∨ (eqB xk xt xv xg 0 0 0 false = false ∧ xg = true)) ∧ atS l k t = (Ver.zero, false, 0) ∨
        (eqB xk xt xv xg 0 0 0 false = false ∧ xg = false) ∧ atS l k t = (⟨xk, xt, xv, xg⟩, true, 0) := by
      rw [HP.out]
      by_cases hz : (⟨xk, xt, xv, xg⟩ : Ver) = Ver.zero
      · exact .inl ⟨.inl (decide_eq_true hz), by rw [if_pos (.inl hz)]⟩
      · have he : eqB xk xt xv xg 0 0 0 false = false := decide_eq_false hz
        by_cases hg : xg = true
        · exact .inl ⟨.inr ⟨he, hg⟩, by rw [if_pos (.inr hg)]⟩
        · exact .inr ⟨⟨he, by simpa using hg⟩, by rw [if_neg (fun h => h.elim hz hg)]⟩
    rcases hbad2 with ⟨hz | ⟨hz, rfl⟩, hp⟩ | ⟨⟨hz, rfl⟩, hp⟩
    · have HQ := hide hp
      clear hp
      go_enter Try.func30, Try.ntmps30
      go_wp2_with (first | (go_at_call 54; with_reducible refine (valid_any A c l _ (by omega) (h.alloc _)).mono ?_; rw [hv]; rintro e w1 ⟨rfl, hb⟩; have q := (Blk.new _ _ _).below hb (by simp)) | (go_at_call 65; refine (isKey_any _ _).mono ?_; rw [hkB, hk]; rintro e w2 ⟨rfl, rfl⟩) | (go_at_call 66; refine (isStamp_any _ _).mono ?_; rw [htB, ht]; rintro e w2 ⟨rfl, rfl⟩) | (go_at_call 67; refine (HL.out _ ((h.alloc _).below hb (Nat.le_refl _))).mono ?_; unfold Ver.val; rintro e w2 ⟨rfl, hb2⟩; have q2 := q.below hb2 q.lt; have l2 := q2.lt; have ne1 : ¬ w2.heap.size = w.heap.size := (by omega); have ne2 : ¬ w.heap.size = w2.heap.size := (by omega); have q2c := q2.cell; have q2f := q2.frozen))
      refine bodyPost_ret (results_blk3 rfl _ _ w.heap.size 44 _ _ rfl (((((q2.set_ 0 _).set_ 1 _).set_ 2 _).set_ 3 _).alloc _) Try.underlying44 rfl (by kernel_rfl)) rfl ⟨by rw [HQ.out]; rfl, ?_⟩
      have b2 : Below w.heap.size w w2 := (((Below.refl _ _).alloc (Nat.le_refl _) _).trans (hb.mono (by simp))).trans (hb2.mono (by have := hb.size; simp at this; omega))
      exact (((((b2.setCell (p := ⟨w.heap.size, 0, none⟩) (Nat.le_refl _) _).setCell (p := ⟨w.heap.size, 1, none⟩) (Nat.le_refl _) _).setCell (p := ⟨w.heap.size, 2, none⟩) (Nat.le_refl _) _).setCell (p := ⟨w.heap.size, 3, none⟩) (Nat.le_refl _) _).alloc (by simp [World.setCell]; omega) _)
    · have HQ := hide hp
      clear hp
      go_enter Try.func30, Try.ntmps30
      go_wp2_with (first | (go_at_call 54; with_reducible refine (valid_any A c l _ (by omega) (h.alloc _)).mono ?_; rw [hv]; rintro e w1 ⟨rfl, hb⟩; have q := (Blk.new _ _ _).below hb (by simp)) | (go_at_call 65; refine (isKey_any _ _).mono ?_; rw [hkB, hk]; rintro e w2 ⟨rfl, rfl⟩) | (go_at_call 66; refine (isStamp_any _ _).mono ?_; rw [htB, ht]; rintro e w2 ⟨rfl, rfl⟩) | (go_at_call 67; refine (HL.out _ ((h.alloc _).below hb (Nat.le_refl _))).mono ?_; unfold Ver.val; rintro e w2 ⟨rfl, hb2⟩; have q2 := q.below hb2 q.lt; have l2 := q2.lt; have ne1 : ¬ w2.heap.size = w.heap.size := (by omega); have ne2 : ¬ w.heap.size = w2.heap.size := (by omega); have q2c := q2.cell; have q2f := q2.frozen))
      refine bodyPost_ret (results_blk3 rfl _ _ w.heap.size 44 _ _ rfl (((((q2.set_ 0 _).set_ 1 _).set_ 2 _).set_ 3 _).alloc _) Try.underlying44 rfl (by kernel_rfl)) rfl ⟨by rw [HQ.out]; rfl, ?_⟩
      have b2 : Below w.heap.size w w2 := (((Below.refl _ _).alloc (Nat.le_refl _) _).trans (hb.mono (by simp))).trans (hb2.mono (by have := hb.size; simp at this; omega))
      exact (((((b2.setCell (p := ⟨w.heap.size, 0, none⟩) (Nat.le_refl _) _).setCell (p := ⟨w.heap.size, 1, none⟩) (Nat.le_refl _) _).setCell (p := ⟨w.heap.size, 2, none⟩) (Nat.le_refl _) _).setCell (p := ⟨w.heap.size, 3, none⟩) (Nat.le_refl _) _).alloc (by simp [World.setCell]; omega) _)
    · have HQ := hide hp
      clear hp
      go_enter Try.func30, Try.ntmps30
      go_wp2_with (first | (go_at_call 54; with_reducible refine (valid_any A c l _ (by omega) (h.alloc _)).mono ?_; rw [hv]; rintro e w1 ⟨rfl, hb⟩; have q := (Blk.new _ _ _).below hb (by simp)) | (go_at_call 65; refine (isKey_any _ _).mono ?_; rw [hkB, hk]; rintro e w2 ⟨rfl, rfl⟩) | (go_at_call 66; refine (isStamp_any _ _).mono ?_; rw [htB, ht]; rintro e w2 ⟨rfl, rfl⟩) | (go_at_call 67; refine (HL.out _ ((h.alloc _).below hb (Nat.le_refl _))).mono ?_; unfold Ver.val; rintro e w2 ⟨rfl, hb2⟩; have q2 := q.below hb2 q.lt; have l2 := q2.lt; have ne1 : ¬ w2.heap.size = w.heap.size := (by omega); have ne2 : ¬ w.heap.size = w2.heap.size := (by omega); have q2c := q2.cell; have q2f := q2.frozen))
      refine bodyPost_ret (results_blk3 rfl _ _ w.heap.size 44 _ _ rfl (((((q2.set_ 0 _).set_ 1 _).set_ 2 _).set_ 3 _).alloc _) Try.underlying44 rfl (by kernel_rfl)) rfl ⟨by rw [HQ.out]; rfl, ?_⟩
      have b2 : Below w.heap.size w w2 := (((Below.refl _ _).alloc (Nat.le_refl _) _).trans (hb.mono (by simp))).trans (hb2.mono (by have := hb.size; simp at this; omega))
      exact (((((b2.setCell (p := ⟨w.heap.size, 0, none⟩) (Nat.le_refl _) _).setCell (p := ⟨w.heap.size, 1, none⟩) (Nat.le_refl _) _).setCell (p := ⟨w.heap.size, 2, none⟩) (Nat.le_refl _) _).setCell (p := ⟨w.heap.size, 3, none⟩) (Nat.le_refl _) _).alloc (by simp [World.setCell]; omega) _)
end Go.Proofs.Ytficjpfhakggmaa
