/-
  The walk of versions.Put.
-/
import Derived.Test.YtficjpfhakggmaaLast
import Derived.Test.YtficjpfhakggmaaInsV
namespace Go.Proofs.Ytficjpfhakggmaa
open Go.RowKit
/-- a call hands back a slice of versions and a number -/
def RetVE (w0 : World) (r : List Ver × Int) (e : Ending) (w' : World) : Prop :=
  ∃ A c, e = .returned (.tuple #[.slice A r.1.length c, .int .i64 r.2]) ∧ r.1.length ≤ c ∧ c ≤ maxLen ∧ VS w' A r.1 ∧ Below w0.heap.size w0 w'
theorem RetVE.none_ {w0 w' : World} {x : Int} (hb : Below w0.heap.size w0 w') : RetVE w0 ([], x) (.returned (.tuple #[.slice none 0 0, .int .i64 x])) w' :=
  ⟨none, 0, rfl, Nat.le_refl _, Nat.zero_le _, Rd.nil _ _, hb⟩
set_option maxHeartbeats 1000000 in
theorem put_any (A : Option Addr) (c : Nat) (l : List Ver) (v : Ver) (w : World) (hn : l.length ≤ 9223372036854775807) (h : VS w A l) :
    Calls Try.prog 60 #[.slice A l.length c, .agg #[.int .i64 v.key, .int .i64 v.ts, .int .i64 v.value, .bool v.gone]] w (RetVE w (putS l v)) := by
  cases hv : validB l
  · have hp : putS l v = ([], 1) := by simp [putS, hv]
    rw [hp]
    go_enter Try.func60, Try.ntmps60
    go_wp2_with (go_at_call 54; with_reducible refine (valid_any A c l _ (by omega) (h.alloc _)).mono ?_; rw [hv]; rintro e w1 ⟨rfl, hb⟩)
    go_ret2
    exact RetVE.none_ (((Below.refl _ _).alloc (Nat.le_refl _) _).trans (hb.mono (by simp)))
  · cases hw : wfB v
    · have hp : putS l v = ([], 1) := by simp [putS, hv, hw]
      rw [hp]
      have hwfv : wfB ⟨v.key, v.ts, v.value, v.gone⟩ = false := hw
      go_enter Try.func60, Try.ntmps60
      go_wp2_with (first | (go_at_call 54; with_reducible refine (valid_any A c l _ (by omega) (h.alloc _)).mono ?_; rw [hv]; rintro e w1 ⟨rfl, hb⟩; have n1 := (VAt.new (v := v) rfl).below hb (by simp); unfold VAt at n1) | (go_at_call 86; refine (wf_any _ _ _ _ _).mono ?_; rw [hwfv]; rintro e w2 ⟨rfl, hb2⟩))
      go_ret2
      exact RetVE.none_ ((((Below.refl _ _).alloc (Nat.le_refl _) _).trans (hb.mono (by simp))).trans (hb2.mono (by have := hb.size; simp at this; omega)))
    · have hst := (sto_iff l).1 hv
      have hn : l.length ≤ 4611686018427387904 := by have := hst.len; omega
      have hwfv : wfB ⟨v.key, v.ts, v.value, v.gone⟩ = true := hw
      go_enter Try.func60, Try.ntmps60
      go_upto_region 3 with (first | (go_at_call 54; with_reducible refine (valid_any A c l _ (by omega) (h.alloc _)).mono ?_; rw [hv]; rintro e w1 ⟨rfl, hb⟩; have n1 := (VAt.new (v := v) rfl).below hb (by simp); unfold VAt at n1) | (go_at_call 86; refine (wf_any _ _ _ _ _).mono ?_; rw [hwfv]; rintro e w2 ⟨rfl, hb2⟩))
      have b2 : Below w.heap.size w w2 := (((Below.refl _ _).alloc (Nat.le_refl _) _).trans (hb.mono (by simp))).trans (hb2.mono (by have := hb.size; simp at this; omega))
      have hw2 : w.heap.size < w2.heap.size := by have h1 := hb.size; have h2 := hb2.size; simp at h1; omega
      have h2 : VS w2 A l := h.below b2 (Nat.le_refl _)
      have n2 : VAt w2 w.heap.size 0 v := VAt.below (w := w1) (by unfold VAt; exact n1) hb2 (by have := hb.size; simp at this; omega)
      clear n1 hb hb2
      have n3 := n2.fut hw2
      unfold VAt at n3
      have hlast := fun x : Fut w2.heap.size w2 => last_any A c l v.key 3000000000000000 (upN l v.key 3000000000000000) x.v hn (h2.below x.h (Nat.le_refl _)) (upN_spec hst.up _ _)
      unfold Ver.val at hlast
      have HL := hide hlast
      have HV := hide hv
      have HW := hide hw
      clear hlast hv hw hwfv
      by_cases ho : v.ts ≤ (lastN l v.key (upN l v.key 3000000000000000)).ts
      · have ho' := decide_eq_true ho
        have hp : putS l v = ([], 30) := by simp [putS, HV.out, HW.out, lastV, ho]
        have HP := hide hp
        clear hp ho
        refine wp_region_fut w2.heap.size (by kernel_rfl) (by kernel_rfl) ?_
        repeat (go_big_quiet_step ((go_at_call 67; exact Fut.call (Nat.le_refl _) (HL.out _))))
        refine wpQuiet_nil ?_
        rintro _ ⟨⟨w3, hb3⟩, rfl⟩
        go_wp2
        go_ret2
        rw [HP.out]
        exact RetVE.none_ (b2.trans (hb3.mono (by omega)))
      · have ho' := decide_eq_false ho
        have HO := hide ho
        clear ho
        refine wp_region_fut w2.heap.size (by kernel_rfl) (by kernel_rfl) ?_
        repeat (go_big_quiet_step ((go_at_call 67; exact Fut.call (Nat.le_refl _) (HL.out _))))
        refine wpQuiet_nil ?_
        intro w3 hq'; have hb3 := Fut.of hq'; clear hq'
        by_cases h4 : l.length = 4000
        · have h4' : ((l.length : Int) == 4000) = true := by simp; omega
          have hp : putS l v = ([], 2) := by simp [putS, HV.out, HW.out, lastV, HO.out, h4]
          have HP := hide hp
          clear hp h4
          go_wp2
          go_ret2
          rw [HP.out]
          exact RetVE.none_ (b2.trans (hb3.mono (by omega)))
        · have h4' : ((l.length : Int) == 4000) = false := by simp; omega
          have hp : putS l v = (putL l v, 0) := by simp [putS, HV.out, HW.out, lastV, HO.out, h4]
          have HP := hide hp
          clear hp
          go_upto_region 7 with fail
          have hw3 : w.heap.size < w3.heap.size := by have := hb3.size; omega
          have h3 : VS w3 A l := h2.below hb3 (Nat.le_refl _)
          have n3 : VAt w3 w.heap.size 0 v := n2.below hb3 hw2
          have b3 : Below w.heap.size w w3 := b2.trans (hb3.mono (by omega))
          clear hb3
          go_region_held3 (fun w' => Below w3.heap.size w3 w' ∧ w'.cell? ⟨w.heap.size, 0, none⟩ = some (.int .i64 v.key) ∧ w'.cell? ⟨w.heap.size, 1, none⟩ = some (.int .i64 v.ts) ∧ w'.cell? ⟨w.heap.size, 2, none⟩ = some (.int .i64 v.value) ∧ w'.cell? ⟨w.heap.size, 3, none⟩ = some (.bool v.gone))
            ((refine keepV ?_ hw3 n3; (repeat (first | exact Below.refl _ _ | (refine Below.drew ?_) | (refine Below.alloc ?_ (by (first | ((repeat (first | simp only [World.size_alloc] | simp only [heap_drew])); omega) | omega | (simp; omega))) _) | (refine Below.trans ?_ (Below.mono (by assumption) (by (first | ((repeat (first | simp only [World.size_alloc] | simp only [heap_drew])); omega) | omega | (simp; omega)))))))))
            (first
              | (go_at_call 50; refine (cloneV_any A c l _ (by have := hst.len; omega) (h3.below (And.left (by assumption)) (Nat.le_refl _))).mono ?_; rintro e w4 ⟨v1, rfl, ho1, hb4⟩; obtain ⟨A1, c1, rfl, hlc, hcm, hvs⟩ := ho1.form; have hs4 := hb4.size; (repeat (first | simp only [World.size_alloc] at hs4 | simp only [heap_drew] at hs4)); clear hvs)
              | (go_at_call 93; refine (upTo_any A c l v.key v.ts (upN l v.key v.ts) _ hn (h3.below (And.left (by assumption)) (Nat.le_refl _)) (upN_spec hst.up _ _)).mono ?_; rintro e w5 ⟨rfl, hb5⟩; have hs5 := hb5.size; (repeat (first | simp only [World.size_alloc] at hs5 | simp only [heap_drew] at hs5)))
              | (go_at_call 92; refine (insertV_any A1 c1 l (upN l v.key v.ts) v _ _ _ (ho1.below (by (repeat (first | exact Below.refl _ _ | (refine Below.drew ?_) | (refine Below.alloc ?_ (by (first | ((repeat (first | simp only [World.size_alloc] | simp only [heap_drew])); omega) | omega | (simp; omega))) _) | (refine Below.trans ?_ (Below.mono (by assumption) (by (first | ((repeat (first | simp only [World.size_alloc] | simp only [heap_drew])); omega) | omega | (simp; omega))))))))) (by (first | ((repeat (first | simp only [World.size_alloc] | simp only [heap_drew])); omega) | omega | (simp; omega))) ((upN_spec hst.up _ _).le) (by have := hst.len; omega) (by (first | exact Blk.new _ _ _ | exact Blk.drew (Blk.new _ _ _) | (refine Blk.below (Blk.new _ _ _) (by assumption) (by simp)) | (refine Blk.below (Blk.below (Blk.new _ _ _) (by assumption) (by simp)) (by assumption) (by (first | ((repeat (first | simp only [World.size_alloc] | simp only [heap_drew])); omega) | omega | (simp; omega)))) | (refine Blk.below (Blk.below (Blk.drew (Blk.new _ _ _)) (by assumption) (by simp)) (by assumption) (by (first | ((repeat (first | simp only [World.size_alloc] | simp only [heap_drew])); omega) | omega | (simp; omega)))))) (fun a ha => by have hq := ho1.blk ha; try simp only [World.size_alloc, heap_drew] at hq ⊢; omega)).mono ?_; rintro e w6 ⟨v6, rfl, ho6, hb6⟩; change OwnV w6 _ v6 (putL l v) at ho6; obtain ⟨A6, c6, rfl, hlc6, hcm6, hvs6⟩ := ho6.form; have hs6 := hb6.size; (repeat (first | simp only [World.size_alloc] at hs6 | simp only [heap_drew] at hs6))))
          all_goals
            go_wp2
            go_ret2
            rw [HP.out]
            refine ⟨A6, c6, rfl, hlc6, hcm6, hvs6, b3.trans ?_⟩
            have hq : Below w3.heap.size w3 w6 := by (repeat (first | exact Below.refl _ _ | (refine Below.drew ?_) | (refine Below.alloc ?_ (by (first | ((repeat (first | simp only [World.size_alloc] | simp only [heap_drew])); omega) | omega | (simp; omega))) _) | (refine Below.trans ?_ (Below.mono (by assumption) (by (first | ((repeat (first | simp only [World.size_alloc] | simp only [heap_drew])); omega) | omega | (simp; omega)))))))
            exact hq.mono (by omega)
end Go.Proofs.Ytficjpfhakggmaa
