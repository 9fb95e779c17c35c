/-
  The walks of the reference implementation of layer 33: at, At, Newest.
-/
import Derived.Test.YtficjpfhakggmaaRef33b
import Derived.Test.YtficjpfhakggmaaAt
namespace Go.Proofs.Ytficjpfhakggmaa
open Go.RowKit
def atFold (l : List Ver) (k t : Int) : Ver := l.foldl (fun a v => if v.key = k ∧ v.ts ≤ t then v else a) Ver.zero
/-- regulatorref33.at -/
def atR0 (l : List Ver) (k t : Int) : Ver × Bool := if (atFold l k t).key = 0 ∨ (atFold l k t).gone = true then (Ver.zero, false) else (atFold l k t, true)
def RetVB (w0 : World) (r : Ver × Bool) (e : Ending) (w' : World) : Prop :=
  e = .returned (.tuple #[.agg #[.int .i64 r.1.key, .int .i64 r.1.ts, .int .i64 r.1.value, .bool r.1.gone], .bool r.2]) ∧ Below w0.heap.size w0 w'
set_option maxHeartbeats 1000000 in
theorem rAt0_any (A : Option Addr) (c : Nat) (l : List Ver) (key t : Int) (w : World) (hn : l.length ≤ 9223372036854775807) (h : VS w A l) :
    Calls Try.prog 95 #[.slice A l.length c, .int .i64 key, .int .i64 t] w (RetVB w (atR0 l key t)) := by
  go_enter Try.func95, Try.ntmps95
  go_wp2
  go_loopw [9] (fun i wr => ∃ (k : Nat) (v : Ver), k ≤ l.length ∧ i = .int .i64 k ∧ v = atFold (l.take k) key t ∧ Blk wr w.heap.size 44 #[.int .i64 0, .int .i64 0, .int .i64 0, .bool false] ∧
      Blk wr (w.heap.size + 1) 44 #[.int .i64 v.key, .int .i64 v.ts, .int .i64 v.value, .bool v.gone] ∧ Below w.heap.size w wr) (fun i _ => l.length - (intOf i).toNat)
  case atStart =>
    refine ⟨0, Ver.zero, Nat.zero_le _, rfl, rfl, (Blk.new _ _ _).alloc _, ?_, ?_⟩
    · have := Blk.new (w.alloc (.cells #[.int .i64 0, .int .i64 0, .int .i64 0, .bool false] 44)) 44 #[.int .i64 0, .int .i64 0, .int .i64 0, .bool false]
      rw [World.size_alloc] at this; exact this
    · exact ((Below.refl _ _).alloc (Nat.le_refl _) _).alloc (by simp) _
  case round =>
    obtain ⟨k, ⟨vk, vt, vv, vg⟩, hk, rfl, hv, q6, q8, hb⟩ := hrel
    have HV := hide hv
    clear hv
    have l6 := q6.lt
    have l8 := q8.lt
    have q8c := q8.cell
    have q8f := q8.frozen
    have q6c := q6.cell
    have q6f := q6.frozen
    by_cases hlt : k < l.length
    · obtain ⟨b, o, rfl, hbl, hc⟩ := (h.below hb (Nat.le_refl _)).at_ hlt
      have n0 := hc k hlt
      unfold VAt at n0
      have HS := hide (show atFold (l.take (k + 1)) key t = _ from foldl_take _ Ver.zero l k hlt)
      clear hc
      by_cases hq : l[k].key = key ∧ l[k].ts ≤ t
      · have hq' : (l[k].key == key) = true := by simp [hq.1]
        have hq2 : decide (l[k].ts ≤ t) = true := by simp [hq.2]
        have HQ := hide hq
        clear hq
        go_wp2
        go_roundw
        case rel =>
          refine ⟨k + 1, l[k], by omega, by go_num, by rw [HS.out, if_pos HQ.out], ?_, ?_, ?_⟩
          · exact (((q6.far (p := ⟨w.heap.size + 1, 0, none⟩) (by simp) _).far (p := ⟨w.heap.size + 1, 1, none⟩) (by simp) _).far (p := ⟨w.heap.size + 1, 2, none⟩) (by simp) _).far (p := ⟨w.heap.size + 1, 3, none⟩) (by simp) _
          · exact (((q8.set_ 0 _).set_ 1 _).set_ 2 _).set_ 3 _
          · exact (((hb.setCell (p := ⟨w.heap.size + 1, 0, none⟩) (by simp) _).setCell (p := ⟨w.heap.size + 1, 1, none⟩) (by simp) _).setCell (p := ⟨w.heap.size + 1, 2, none⟩) (by simp) _).setCell (p := ⟨w.heap.size + 1, 3, none⟩) (by simp) _
        case measure => simp [intOf]; omega
      · have hq' : (l[k].key == key) = false ∨ (l[k].key == key) = true ∧ decide (l[k].ts ≤ t) = false := by
          simp only [beq_eq_false_iff_ne, beq_iff_eq, decide_eq_false_iff_not]
          omega
        have HQ := hide hq
        clear hq
        rcases hq' with hq' | ⟨hq', hq2⟩
        all_goals
          go_wp2
          go_roundw
          case rel => exact ⟨k + 1, ⟨vk, vt, vv, vg⟩, by omega, by go_num, by rw [HS.out, if_neg HQ.out]; exact HV.out, q6, q8, hb⟩
          case measure => simp [intOf]; omega
    · have hat : atFold l key t = ⟨vk, vt, vv, vg⟩ := by rw [HV.out, List.take_of_length_le (by omega)]
      have hr : ((vk = 0 ∨ vk ≠ 0 ∧ vg = true) ∧ atR0 l key t = (Ver.zero, false)) ∨ (vk ≠ 0 ∧ vg = false) ∧ atR0 l key t = (⟨vk, vt, vv, vg⟩, true) := by
        unfold atR0
        rw [hat]
        by_cases h0 : vk = 0
        · exact .inl ⟨.inl h0, if_pos (.inl h0)⟩
        · cases vg
          · exact .inr ⟨⟨h0, rfl⟩, if_neg (by simp [h0])⟩
          · exact .inl ⟨.inr ⟨h0, rfl⟩, if_pos (.inr rfl)⟩
      have bs := fun (x y : Value) (z : Value) (u : Value) => (((hb.setCell (p := ⟨w.heap.size, 0, none⟩) (Nat.le_refl _) x).setCell (p := ⟨w.heap.size, 1, none⟩) (Nat.le_refl _) y).setCell (p := ⟨w.heap.size, 2, none⟩) (Nat.le_refl _) z).setCell (p := ⟨w.heap.size, 3, none⟩) (Nat.le_refl _) u
      have HB := hide bs
      clear hat bs
      rcases hr with ⟨h0 | ⟨h0, rfl⟩, hp⟩ | ⟨⟨h0, rfl⟩, hp⟩
      all_goals
        have HP := hide hp
        clear hp
        first | (have h0' := beq_iff_eq.2 h0; clear h0) | (have h0' := beq_eq_false_iff_ne.2 h0; clear h0)
        go_wp2
        refine bodyPost_ret (results_blk2 rfl _ _ w.heap.size 44 _ _ rfl ((((q6.set_ 0 _).set_ 1 _).set_ 2 _).set_ 3 _) Try.underlying44 rfl (by kernel_rfl)) rfl ⟨by rw [HP.out]; rfl, HB.out _ _ _ _⟩
def atR (l : List Ver) (k t : Int) : Ver × Bool × Int := if !validB l || !keyB k || !stampB t then (Ver.zero, false, 1) else ((atR0 l k t).1, (atR0 l k t).2, 0)
def newestRS (l : List Ver) (k : Int) : Int × Int := if !validB l || !keyB k then (0, 1) else (newestR l k, 0)
set_option maxHeartbeats 1000000 in
theorem rNewest_any (A : Option Addr) (c : Nat) (l : List Ver) (k : Int) (w : World) (hn : l.length ≤ 9223372036854775807) (h : VS w A l) :
    Calls Try.prog 32 #[.slice A l.length c, .int .i64 k] w fun e w' => e = .returned (.tuple #[.int .i64 (newestRS l k).1, .int .i64 (newestRS l k).2]) ∧ Below w.heap.size w w' := by
  cases hv : validB l
  · have hp : newestRS l k = (0, 1) := by simp [newestRS, hv]
    rw [hp]
    go_enter Try.func32, Try.ntmps32
    go_wp2_with (go_at_call 56; with_reducible refine (rValid_any A c l _ (by omega) h).mono ?_; rw [hv]; rintro e w1 ⟨rfl, hb⟩)
    go_ret2
    exact ⟨rfl, hb⟩
  · cases hk : keyB k
    · have hp : newestRS l k = (0, 1) := by simp [newestRS, hk]
      rw [hp]
      go_enter Try.func32, Try.ntmps32
      go_wp2_with (first | (go_at_call 56; with_reducible refine (rValid_any A c l _ (by omega) h).mono ?_; rw [hv]; rintro e w1 ⟨rfl, hb⟩) | (go_at_call 62; refine (rKey_any _ _).mono ?_; rw [hk]; rintro e w2 ⟨rfl, rfl⟩))
      go_ret2
      exact ⟨rfl, hb⟩
    · have hp : newestRS l k = (newestR l k, 0) := by simp [newestRS, hk, hv]
      rw [hp]
      go_enter Try.func32, Try.ntmps32
      go_wp2_with (first | (go_at_call 56; with_reducible refine (rValid_any A c l _ (by omega) h).mono ?_; rw [hv]; rintro e w1 ⟨rfl, hb⟩) | (go_at_call 62; refine (rKey_any _ _).mono ?_; rw [hk]; rintro e w2 ⟨rfl, rfl⟩) | (go_at_call 70; refine (rNewest0_any A c l k _ hn (h.below hb (Nat.le_refl _))).mono ?_; rintro e w2 ⟨rfl, rfl⟩))
      go_ret2
      exact ⟨rfl, hb⟩
set_option maxHeartbeats 1000000 in
theorem rAt_any (A : Option Addr) (c : Nat) (l : List Ver) (k t : Int) (w : World) (hn : l.length ≤ 9223372036854775807) (h : VS w A l) :
    Calls Try.prog 64 #[.slice A l.length c, .int .i64 k, .int .i64 t] w (RetVBE w (atR l k t)) := by
  by_cases hbad : (!validB l || !keyB k || !stampB t) = true
  · have hp : atR l k t = (Ver.zero, false, 1) := by unfold atR; rw [if_pos hbad]
    have HP := hide hp
    clear hp
    have hcases : validB l = false ∨ (validB l = true ∧ keyB k = false) ∨ (validB l = true ∧ keyB k = true ∧ stampB t = false) := by
      cases hv : validB l <;> cases hk : keyB k <;> cases ht : stampB t <;> simp_all
    clear hbad
    rcases hcases with hv | ⟨hv, hk⟩ | ⟨hv, hk, ht⟩
    all_goals
      go_enter Try.func64, Try.ntmps64
      go_wp2_with (first | (go_at_call 56; with_reducible refine (rValid_any A c l _ (by omega) (h.alloc _)).mono ?_; rw [hv]; rintro e w1 ⟨rfl, hb⟩; have q := (Blk.new _ _ _).below hb (by simp); have qc := q.cell; have qf := q.frozen; clear q) | (go_at_call 62; refine (rKey_any _ _).mono ?_; rw [hk]; rintro e w2 ⟨rfl, rfl⟩) | (go_at_call 63; refine (rStamp_any _ _).mono ?_; rw [ht]; rintro e w2 ⟨rfl, rfl⟩))
      refine bodyPost_ret (v := .tuple #[.agg #[.int .i64 0, .int .i64 0, .int .i64 0, .bool false], .bool false, .int .i64 1]) (by simp [results, Try.results64, go_sem, qc]) rfl ⟨by rw [HP.out]; rfl, ?_⟩
      exact ((((((Below.refl _ _).alloc (Nat.le_refl _) _).trans (hb.mono (by simp))).setCell (p := ⟨w.heap.size, 0, none⟩) (Nat.le_refl _) _).setCell (p := ⟨w.heap.size, 1, none⟩) (Nat.le_refl _) _).setCell (p := ⟨w.heap.size, 2, none⟩) (Nat.le_refl _) _).setCell (p := ⟨w.heap.size, 3, none⟩) (Nat.le_refl _) _
  · have hcases : validB l = true ∧ keyB k = true ∧ stampB t = true := by
      cases hv : validB l <;> cases hk : keyB k <;> cases ht : stampB t <;> simp_all
    obtain ⟨hv, hk, ht⟩ := hcases
    have hp : atR l k t = ((atR0 l k t).1, (atR0 l k t).2, 0) := by unfold atR; rw [if_neg hbad]
    clear hbad
    obtain ⟨x, hx⟩ : ∃ x, x = atR0 l k t := ⟨_, rfl⟩
    have hat := fun w1 h1 => rAt0_any A c l k t w1 hn h1
    rw [← hx] at hp hat
    have HP := hide hp
    have HL := hide hat
    clear hx hp hat
    obtain ⟨⟨xk, xt, xv, xg⟩, xb⟩ := x
    go_enter Try.func64, Try.ntmps64
    go_wp2_with (first | (go_at_call 56; with_reducible refine (rValid_any A c l _ (by omega) (h.alloc _)).mono ?_; rw [hv]; rintro e w1 ⟨rfl, hb⟩; have q := (Blk.new _ _ _).below hb (by simp)) | (go_at_call 62; refine (rKey_any _ _).mono ?_; rw [hk]; rintro e w2 ⟨rfl, rfl⟩) | (go_at_call 63; refine (rStamp_any _ _).mono ?_; rw [ht]; rintro e w2 ⟨rfl, rfl⟩) | (go_at_call 95; refine (HL.out _ ((h.alloc _).below hb (Nat.le_refl _))).mono ?_; unfold RetVB; rintro e w2 ⟨rfl, hb2⟩; have q2 := q.below hb2 q.lt; have l2 := q2.lt; have ne1 : ¬ w2.heap.size = w.heap.size := (by omega); have ne2 : ¬ w.heap.size = w2.heap.size := (by omega); have q2c := q2.cell; have q2f := q2.frozen))
    refine bodyPost_ret (results_blk3 rfl _ _ w.heap.size 44 _ _ rfl (((((q2.set_ 0 _).set_ 1 _).set_ 2 _).set_ 3 _).alloc _) Try.underlying44 rfl (by kernel_rfl)) rfl ⟨by rw [HP.out]; rfl, ?_⟩
    have b2 : Below w.heap.size w w2 := (((Below.refl _ _).alloc (Nat.le_refl _) _).trans (hb.mono (by simp))).trans (hb2.mono (by have := hb.size; simp at this; omega))
    exact (((((b2.setCell (p := ⟨w.heap.size, 0, none⟩) (Nat.le_refl _) _).setCell (p := ⟨w.heap.size, 1, none⟩) (Nat.le_refl _) _).setCell (p := ⟨w.heap.size, 2, none⟩) (Nat.le_refl _) _).setCell (p := ⟨w.heap.size, 3, none⟩) (Nat.le_refl _) _).alloc (by simp [World.setCell]; omega) _)
end Go.Proofs.Ytficjpfhakggmaa
