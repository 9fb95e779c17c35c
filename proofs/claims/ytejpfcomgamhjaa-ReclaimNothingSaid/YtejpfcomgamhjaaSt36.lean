/-
  The walks of reclaim.staying and of its two closures.
-/
import Derived.Test.YtejpfcomgamhjaaPl36
import Derived.Test.YtejpfcomgamhjaaRfs
import Derived.Test.YtejpfcomgamhjaaClV
import Derived.Shelf.Abstract
import Derived.Shelf.RegionOpen
import Derived.OwnWalkIn
import Derived.TacticsInMore
import Derived.LoopNIn
import Derived.LoopIn
import Derived.Laws.EntriesVeiled
namespace Go.Proofs.Ytejpfcomgamhjaa
open Go.RowKit Go.Shelf
attribute [local go_sem] Oper.semAt_some
/-- what a round keeps: all below the caller's heap, and every box but one -/
def KpB (n ob : Nat) (W W' : World) : Prop := Below n W W' ∧ ∀ b t v, t ≠ 40 → b ≠ ob → Boxed W b t v → Boxed W' b t v
theorem KpB.trans {n ob : Nat} {A B C : World} (h : KpB n ob A B) (k : KpB n ob B C) : KpB n ob A C := ⟨h.1.trans k.1, fun b t v h1 h2 h3 => k.2 b t v h1 h2 (h.2 b t v h1 h2 h3)⟩
/-- the iterator's maker -/
theorem staying_any (A : Option Addr) (n c : Nat) (h : Int) (w : World) :
    Calls Try.prog 46 #[.slice A n c, .int .i64 h] w fun e w' =>
      e = .returned (.func (.func 64) #[] #[.pointer (some ⟨w.heap.size + 1 + 1, 0, none⟩), .pointer (some ⟨w.heap.size, 0, none⟩), .pointer (some ⟨w.heap.size + 1, 0, none⟩), .pointer (some ⟨w.heap.size + 1 + 1 + 1, 0, none⟩)]) ∧
      w' = (((w.alloc (.cells #[.slice A n c] 22)).alloc (.cells #[.int .i64 h] 3)).alloc (.cells #[.int .i64 0] 3)).alloc (.cells #[.func (.func 63) #[] #[.pointer (some ⟨w.heap.size + 1 + 1, 0, none⟩)]] 46) := by
  go_enter Try.func46, Try.ntmps46
  go_wp2
  go_ret
  exact ⟨rfl, rfl⟩
/-- whether a later version of the key came before -/
theorem covered_any (kb : Nat) (key vk vt vv : Int) (vg : Bool) (w : World) (h : Boxed w kb 3 (.int .i64 key)) :
    Calls Try.prog 63 #[.agg #[.int .i64 vk, .int .i64 vt, .int .i64 vv, .bool vg], .pointer (some ⟨kb, 0, none⟩)] w fun e w' =>
      e = .returned (.bool (key == vk)) ∧ w' = (w.alloc (.cells #[.int .i64 vk, .int .i64 vt, .int .i64 vv, .bool vg] 40)).setCell ⟨kb, 0, none⟩ (.int .i64 vk) := by
  have h1 := (h.alloc (.cells #[.int .i64 vk, .int .i64 vt, .int .i64 vv, .bool vg] 40)).cell
  have h2 := (h.alloc (.cells #[.int .i64 vk, .int .i64 vt, .int .i64 vv, .bool vg] 40)).frozen
  have hne : ¬ w.heap.size = kb := by have := h.lt; omega
  go_enter Try.func63, Try.ntmps63
  go_wp2
  go_ret
  exact ⟨rfl, rfl⟩
set_option maxHeartbeats 4000000 in
/-- the iterator: what it hands over -/
theorem staying_seq (A : Option Addr) (c : Nat) (l : List Ver) (h : Int) (w0 w : World) (ob : Nat) (hn : l.length ≤ 4000) (hv : VS w0 A l) (hb0 : Below w0.heap.size w0 w) (kb lb hb fb : Nat)
    (hkl : kb ≠ lb) (hkh : kb ≠ hb) (hkf : kb ≠ fb) (ho : ob ≠ kb ∧ ob ≠ lb ∧ ob ≠ hb ∧ ob ≠ fb) (hk0 : w0.heap.size ≤ kb)
    (bk : Boxed w kb 3 (.int .i64 0)) (bl : Boxed w lb 22 (.slice A l.length c)) (bh : Boxed w hb 3 (.int .i64 h))
    (bf : Boxed w fb 46 (.func (.func 63) #[] #[.pointer (some ⟨kb, 0, none⟩)])) :
    SeqAt Fence.wide 3 Try.prog 64 #[.pointer (some ⟨kb, 0, none⟩), .pointer (some ⟨lb, 0, none⟩), .pointer (some ⟨hb, 0, none⟩), .pointer (some ⟨fb, 0, none⟩)] Ver.val (KpB w0.heap.size ob) kb (stayR l h) w := by
  intro yl J W hW hJ hY h0
  have k0 : Boxed W kb 3 (.int .i64 0) := (hW.block _ bk.lt).trans bk
  have l0 : Boxed W lb 22 (.slice A l.length c) := (hW.block _ bl.lt).trans bl
  have h0' : Boxed W hb 3 (.int .i64 h) := (hW.block _ bh.lt).trans bh
  have f0 : Boxed W fb 46 (.func (.func 63) #[] #[.pointer (some ⟨kb, 0, none⟩)]) := (hW.block _ bf.lt).trans bf
  have w00 : Below w0.heap.size w0 W := hb0.trans (hW.mono hb0.size)
  clear bk bl bh bf hW hb0
  have kc := k0.cell
  have kf := k0.frozen
  have lc := l0.cell
  refine callsIn_of_wp Try.func64 rfl trivial ?_ rfl
  simp only [Try.ntmps64, List.size_toArray, List.length_cons, List.length_nil, Nat.reduceAdd, Nat.reduceSub, Array.replicate_succ, Array.replicate_zero, List.push_toArray, List.append_toArray, List.nil_append, List.cons_append]
  gi_wp2
  have J0 : ∀ {ys B u}, J ys B → J ys (B.setCell ⟨kb, 0, none⟩ u) := fun hj => hJ _ _ _ _ hj (grownBy_setCell' _ _ _) (fun r e => by cases e; rfl)
  have J1 : ∀ {ys B} (o : Obj), J ys B → J ys (B.alloc o) := fun o hj => hJ _ _ _ _ hj (World.grownBy_alloc _ o none) (fun r e => by cases e)
  gi_loopw [6, 7, 10] (fun _ _ i wr => ∃ k : Nat, k ≤ l.length ∧ i = .int .i64 k ∧ Boxed wr kb 3 (.int .i64 (stayK l h k).1) ∧ J (stayK l h k).2 wr ∧ Boxed wr lb 22 (.slice A l.length c) ∧
    Boxed wr hb 3 (.int .i64 h) ∧ Boxed wr fb 46 (.func (.func 63) #[] #[.pointer (some ⟨kb, 0, none⟩)]) ∧ Below w0.heap.size w0 wr) (fun _ _ i _ => l.length - (intOf i).toNat)
  case atStart => exact ⟨0, Nat.zero_le _, rfl, k0.set _, J0 h0, l0.other hkl.symm _, h0'.other hkh.symm _, f0.other hkf.symm _, w00.setCell (p := ⟨kb, 0, none⟩) hk0 _⟩
  case round =>
    obtain ⟨k, hk, rfl, bk, hj, bl, bh, bf, hb⟩ := hrel
    have hpre := stayK_pre (l := l) (h := h) hk
    have hstep := fun hlt => stayK_step (l := l) (h := h) (k := k) hlt
    have hpre' := fun hlt : k < l.length => stayK_pre (l := l) (h := h) (k := k + 1) hlt
    obtain ⟨⟨key, out⟩, hst⟩ : ∃ x, x = stayK l h k := ⟨_, rfl⟩
    rw [← hst] at bk hj hpre hstep
    dsimp only at bk hj hpre
    by_cases hlt : k < l.length
    · obtain ⟨m, hm⟩ : ∃ m, m = l.length - 1 - k := ⟨_, rfl⟩
      have hml : m < l.length := by omega
      have hm0 : (0 : Int) ≤ (l.length : Int) - 1 - (k : Int) := by omega
      have hm1 : (l.length : Int) - 1 - (k : Int) < l.length := by omega
      have hs := hstep hlt
      have hp := hpre' hlt
      rw [hs] at hp
      simp only [← hm] at hs hp
      have hvr : VS wr A l := VS.below hv hb (Nat.le_refl _)
      obtain ⟨b, o, rfl, hbl, hc⟩ := hvr.at_ hml
      have c0 := hc m hml
      obtain ⟨⟨vk, vt, vv, vg⟩, hx⟩ : ∃ x, x = l[m] := ⟨_, rfl⟩
      rw [← hx] at c0 hs hp
      subst hm
      unfold VAt at c0
      dsimp only at c0
      have lc1 := bl.cell
      have hc1 := (bh.alloc (.cells #[.int .i64 vk, .int .i64 vt, .int .i64 vv, .bool vg] 40)).cell
      have fc1 := (bf.alloc (.cells #[.int .i64 vk, .int .i64 vt, .int .i64 vv, .bool vg] 40)).cell
      clear hc hvr hx hst hstep hpre'
      by_cases hts : vt ≤ h
      · have t1 : decide (vt ≤ h) = true := decide_eq_true hts
        have bk2 := bk.alloc (.cells #[.int .i64 vk, .int .i64 vt, .int .i64 vv, .bool vg] 40)
        have nb := cell_of_row (wr.alloc (.cells #[.int .i64 vk, .int .i64 vt, .int .i64 vv, .bool vg] 40)) wr.heap.size 3 _ _ (0, 0) (heap_alloc_new wr _)
        have ht := hts
        clear hts
        by_cases hq : key = vk
        · have q1 : (key == vk) = true := by simp [hq]
          gi_wp2_with (refine ⟨trivial, ?_⟩; gi_at_call 63; refine (callsIn_wide.2 (covered_any kb key vk vt vv vg _ bk2)).mono ?_; rw [q1]; rintro e w' ⟨rfl, rfl⟩)
          have hf : stayF h (key, out) ⟨vk, vt, vv, vg⟩ = (vk, out) := by unfold stayF; rw [if_pos ht]; simp [hq]
          rw [hf] at hs
          go_roundw
          case rel => exact ⟨k + 1, by omega, by go_num, by rw [hs]; exact (bk2.alloc _).set _, by rw [hs]; exact J0 (J1 _ (J1 _ hj)), ((bl.alloc _).alloc _).other hkl.symm _, ((bh.alloc _).alloc _).other hkh.symm _, ((bf.alloc _).alloc _).other hkf.symm _, ((hb.alloc hb.size _).alloc (by have := hb.size; simp; omega) _).setCell (p := ⟨kb, 0, none⟩) hk0 _⟩
          case measure => simp [intOf]; omega
        · have q1 : (key == vk) = false := by simp [hq]
          have hlt1 := bk.lt
          have hne : ¬ kb = wr.heap.size := by omega
          have hne' : ¬ wr.heap.size = kb := by omega
          cases vg
          · have hf : stayF h (key, out) ⟨vk, vt, vv, false⟩ = (vk, out ++ [⟨vk, vt, vv, false⟩]) := by unfold stayF; rw [if_pos ht]; simp [hq]
            rw [hf] at hs hp
            have b3 := ((hb.setCell (p := ⟨kb, 0, none⟩) hk0 (.int .i64 vk)).alloc (by have := (hb.setCell (p := ⟨kb, 0, none⟩) hk0 (.int .i64 vk)).size; exact this) (.cells #[.int .i64 vk, .int .i64 vt, .int .i64 vv, .bool false] 40)).alloc (by have := (hb.setCell (p := ⟨kb, 0, none⟩) hk0 (.int .i64 vk)).size; simp; omega) (.cells #[.int .i64 vk, .int .i64 vt, .int .i64 vv, .bool false] 40)
            obtain ⟨fn, tmps, assign, body, hy, hR⟩ := hY out ⟨vk, vt, vv, false⟩ (((wr.setCell ⟨kb, 0, none⟩ (.int .i64 vk)).alloc (.cells #[.int .i64 vk, .int .i64 vt, .int .i64 vv, .bool false] 40)).alloc (.cells #[.int .i64 vk, .int .i64 vt, .int .i64 vv, .bool false] 40)) (J1 _ (J1 _ (J0 hj))) hp
            dsimp only [Ver.val] at hy
            gi_wp2_with (refine ⟨trivial, ?_⟩; gi_at_call 63; refine (callsIn_wide.2 (covered_any kb key vk vt vv false _ bk2)).mono ?_; rw [q1]; rintro e w' ⟨rfl, rfl⟩)
            refine hR.mono ?_
            rintro e W' ⟨rfl, hj', hkp⟩
            have KK := hide hkp
            have JJ := hide hj'
            clear hkp hj'
            gi_wp2
            go_roundw
            case rel => exact ⟨k + 1, by omega, by go_num, by rw [hs]; exact KK.out.2 _ _ _ (by decide) ho.1.symm (((bk.set _).alloc _).alloc _), by rw [hs]; exact JJ.out, KK.out.2 _ _ _ (by decide) ho.2.1.symm (((bl.other hkl.symm _).alloc _).alloc _), KK.out.2 _ _ _ (by decide) ho.2.2.1.symm (((bh.other hkh.symm _).alloc _).alloc _), KK.out.2 _ _ _ (by decide) ho.2.2.2.symm (((bf.other hkf.symm _).alloc _).alloc _), b3.trans KK.out.1⟩
            case measure => simp [intOf]; omega
          · have b3 := ((hb.setCell (p := ⟨kb, 0, none⟩) hk0 (.int .i64 vk)).alloc (by have := (hb.setCell (p := ⟨kb, 0, none⟩) hk0 (.int .i64 vk)).size; exact this) (.cells #[.int .i64 vk, .int .i64 vt, .int .i64 vv, .bool true] 40)).alloc (by have := (hb.setCell (p := ⟨kb, 0, none⟩) hk0 (.int .i64 vk)).size; simp; omega) (.cells #[.int .i64 vk, .int .i64 vt, .int .i64 vv, .bool true] 40)
            have hf : stayF h (key, out) ⟨vk, vt, vv, true⟩ = (vk, out) := by unfold stayF; rw [if_pos ht]; simp
            rw [hf] at hs
            gi_wp2_with (refine ⟨trivial, ?_⟩; gi_at_call 63; refine (callsIn_wide.2 (covered_any kb key vk vt vv true _ bk2)).mono ?_; rw [q1]; rintro e w' ⟨rfl, rfl⟩)
            go_roundw
            case rel => exact ⟨k + 1, by omega, by go_num, by rw [hs]; exact ((bk.set _).alloc _).alloc _, by rw [hs]; exact J1 _ (J1 _ (J0 hj)), ((bl.other hkl.symm _).alloc _).alloc _, ((bh.other hkh.symm _).alloc _).alloc _, ((bf.other hkf.symm _).alloc _).alloc _, b3⟩
            case measure => simp [intOf]; omega
      · have t1 : decide (vt ≤ h) = false := decide_eq_false hts
        have hf : stayF h (key, out) ⟨vk, vt, vv, vg⟩ = (key, out ++ [⟨vk, vt, vv, vg⟩]) := if_neg hts
        rw [hf] at hs hp
        obtain ⟨fn, tmps, assign, body, hy, hR⟩ := hY out ⟨vk, vt, vv, vg⟩ (wr.alloc (.cells #[.int .i64 vk, .int .i64 vt, .int .i64 vv, .bool vg] 40)) (J1 _ hj) hp
        dsimp only [Ver.val] at hy
        clear hts
        gi_wp2
        refine ⟨fun _ h => (by cases h), ?_⟩
        gi_wp2
        refine hR.mono ?_
        rintro e W' ⟨rfl, hj', hkp⟩
        have KK := hide hkp
        have JJ := hide hj'
        clear hkp hj'
        gi_wp2
        go_roundw
        case rel => exact ⟨k + 1, by omega, by go_num, by rw [hs]; exact KK.out.2 _ _ _ (by decide) ho.1.symm (bk.alloc _), by rw [hs]; exact JJ.out, KK.out.2 _ _ _ (by decide) ho.2.1.symm (bl.alloc _), KK.out.2 _ _ _ (by decide) ho.2.2.1.symm (bh.alloc _), KK.out.2 _ _ _ (by decide) ho.2.2.2.symm (bf.alloc _), (hb.alloc hb.size _).trans KK.out.1⟩
        case measure => simp [intOf]; omega
    · obtain rfl : k = l.length := by omega
      have hR : stayR l h = out := by show (stayK l h l.length).2 = out; rw [← hst]
      have lc1 := bl.cell
      gi_wp2
      go_end0
      exact ⟨⟨_, rfl⟩, by rw [hR]; exact hj⟩
end Go.Proofs.Ytejpfcomgamhjaa
