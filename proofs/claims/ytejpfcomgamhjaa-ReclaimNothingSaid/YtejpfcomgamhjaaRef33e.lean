/-
  The walk of the reference implementation of layer 33: Read.
-/
import Derived.Test.YtejpfcomgamhjaaRef33d
import Derived.WalkMore
import Derived.Deep.LoopGhost
namespace Go.Proofs.Ytejpfcomgamhjaa
open Go.RowKit
/-- what the read of the reference implementation makes of one index -/
def rOne (l : List Ver) (t : Int) (i : Nat) : Option Ver :=
  if 0 < i ∧ (l.getD (i - 1) Ver.zero).key = (l.getD i Ver.zero).key then none else if (atR0 l (l.getD i Ver.zero).key t).2 = true then some (atR0 l (l.getD i Ver.zero).key t).1 else none
def rReadL (l : List Ver) (t : Int) : List Ver := (List.range l.length).filterMap (rOne l t)
def rReadS (l : List Ver) (t : Int) : List Ver × Int := if !validB l || !stampB t then ([], 1) else (rReadL l t, 0)
theorem range_step {α : Type} (f : Nat → Option α) (i : Nat) : (List.range (i + 1)).filterMap f = (List.range i).filterMap f ++ (f i).toList := by
  rw [List.range_succ, List.filterMap_append]
  cases h : f i <;> simp [h]
theorem Rd.new_row2 (w : World) (o : Obj) (t : TypeId) (cs : Array Value) : Rd ((w.alloc o).alloc (.cells cs t)) (some ⟨w.heap.size + 1, 0, none⟩) cs.toList := by
  have := Rd.new_row (w.alloc o) t cs
  rw [World.size_alloc] at this
  exact this
theorem getD_at {l : List Ver} {i : Nat} (h : i < l.length) : l.getD i Ver.zero = l[i] := by simp [h]
set_option maxHeartbeats 2000000 in
theorem rRead_any (A : Option Addr) (c : Nat) (l : List Ver) (t : Int) (w : World) (hn : l.length ≤ 9223372036854775807) (h : VS w A l) :
    Calls Try.prog 35 #[.slice A l.length c, .int .i64 t] w (RetVE w (rReadS l t)) := by
  cases hv : validB l
  · have hp : rReadS l t = ([], 1) := by simp [rReadS, hv]
    rw [hp]
    go_enter Try.func35, Try.ntmps35
    go_wp2_with (go_at_call 33; with_reducible refine (rValid_any A c l _ (by omega) h).mono ?_; rw [hv]; rintro e w1 ⟨rfl, hb⟩)
    go_ret2
    exact RetVE.none_ hb
  · cases ht : stampB t
    · have hp : rReadS l t = ([], 1) := by simp [rReadS, hv, ht]
      rw [hp]
      go_enter Try.func35, Try.ntmps35
      go_wp2_with (first | (go_at_call 33; with_reducible refine (rValid_any A c l _ (by omega) h).mono ?_; rw [hv]; rintro e w1 ⟨rfl, hb⟩) | (go_at_call 25; refine (rStamp_any _ _).mono ?_; rw [ht]; rintro e w2 ⟨rfl, rfl⟩))
      go_ret2
      exact RetVE.none_ hb
    · have hp : rReadS l t = (rReadL l t, 0) := by simp [rReadS, hv, ht]
      rw [hp]
      have hst := (sto_iff l).1 hv
      have hn4 : l.length ≤ 4000 := hst.len
      obtain ⟨i0, hi, hz0, hz1, hz2⟩ := info_parts infoV
      go_enter Try.func35, Try.ntmps35
      go_wp2_with (first | (go_at_call 33; with_reducible refine (rValid_any A c l _ (by omega) h).mono ?_; rw [hv]; rintro e w1 ⟨rfl, hb⟩) | (go_at_call 25; refine (rStamp_any _ _).mono ?_; rw [ht]; rintro e w2 ⟨rfl, rfl⟩))
      clear hv ht hp
      go_loopw [6, 7, 8, 9] (fun u6 u7 _ _ wr => ∃ i : Nat, i ≤ l.length ∧ u7 = .int .i64 i ∧ OwnV wr w.heap.size u6 ((List.range i).filterMap (rOne l t)) ∧ Below w.heap.size w wr)
        (fun _ u7 _ _ _ => l.length - (intOf u7).toNat)
      case atStart => exact ⟨0, Nat.zero_le _, rfl, World.ownsRow_nil _ _ _ _, hb⟩
      case round =>
        obtain ⟨i, hil, rfl, hown, hbr⟩ := hrel
        have hol : ((List.range i).filterMap (rOne l t)).length ≤ i := by simpa using List.length_filterMap_le (rOne l t) (List.range i)
        have HO := hide hown
        clear hown
        obtain ⟨o, ho⟩ : ∃ o, o = (List.range i).filterMap (rOne l t) := ⟨_, rfl⟩
        rw [← ho] at HO hol
        have HQ := hide ho
        clear ho
        by_cases hlt : i < l.length
        · have hr := h.below hbr (Nat.le_refl _)
          obtain ⟨b', o', rfl, hb', hc⟩ := hr.at_ hlt
          have hsr : w.heap.size ≤ wr.heap.size := hbr.size
          have HC := hide hc
          clear hc
          have c0 := HC.out i hlt
          have n0 := c0.fut hb'
          unfold VAt at n0
          have C0 := hide c0
          have HR := hide hr
          clear c0 hr
          have hstep := range_step (rOne l t) i
          have hi1 : (i : Int) < l.length := by omega
          have hi2 : (0 : Int) ≤ i := by omega
          go_wp2_with fail
          have hi0 : i - 1 < l.length := by omega
          by_cases hskip : 0 < i ∧ (l.getD (i - 1) Ver.zero).key = (l.getD i Ver.zero).key
          · have h1 : rOne l t i = none := if_pos hskip
            rw [h1] at hstep
            have HS := hide hstep
            have d0 : decide (0 < i) = true := by simp; omega
            have m0 := (HC.out (i - 1) hi0).fut hb'
            unfold VAt at m0
            have hk : (l[i - 1].key == l[i].key) = true := by have := hskip.2; rw [getD_at hlt, getD_at hi0] at this; simp [this]
            have hlt1 : (i : Int) - 1 < (l.length : Int) := by omega
            have hnn : (0 : Int) ≤ (i : Int) - 1 := by omega
            have K := hide hskip
            clear hskip hstep h1
            refine wp_region_fut wr.heap.size (by kernel_rfl) (by kernel_rfl) ?_
            repeat (go_big_quiet_step ((first | fail)))
            refine wpQuiet_nil ?_
            intro w4 hq'; have hb4 := Fut.of hq'; clear hq'
            go_wp2
            go_roundw
            case rel => exact ⟨i + 1, by omega, by go_num, by rw [HS.out, ← HQ.out]; simpa using OwnV.below HO.out hb4, hbr.trans (hb4.mono hsr)⟩
            case measure => simp [intOf]; omega
          · obtain ⟨⟨⟨xk, xt, xv, xg⟩, xb⟩, hx⟩ : ∃ x, x = atR0 l l[i].key t := ⟨_, rfl⟩
            have h1 : rOne l t i = if xb = true then some ⟨xk, xt, xv, xg⟩ else none := by unfold rOne; rw [if_neg hskip, getD_at hlt, ← hx]
            have hat := fun w1 h1 => rAt0_any (some ⟨b', o', none⟩) c l l[i].key t w1 hn h1
            rw [← hx] at hat
            have HL := hide hat
            rw [h1] at hstep
            have HS := hide hstep
            have m0 := (HC.out (i - 1) hi0).fut hb'
            unfold VAt at m0
            have hlt1 : (i : Int) - 1 < (l.length : Int) := by omega
            have hk : decide (0 < i) = false ∨ (decide (0 < i) = true ∧ (0 : Int) ≤ (i : Int) - 1) ∧ (l[i - 1].key == l[i].key) = false := by
              rcases Nat.eq_zero_or_pos i with h0 | h0
              · exact .inl (by simp [h0])
              · refine .inr ⟨⟨by simp [h0], by omega⟩, ?_⟩
                rw [beq_eq_false_iff_ne]
                intro e
                exact hskip ⟨h0, by rw [getD_at hlt, getD_at hi0, e]⟩
            clear hskip hstep h1 hat hx
            rcases hk with d0 | ⟨⟨d0, hnn⟩, hk⟩
            all_goals
              refine wp_region_fut wr.heap.size (by kernel_rfl) (by kernel_rfl) ?_
              repeat (go_big_quiet_step ((first | fail)))
              refine wpQuiet_nil ?_
              intro w4 hq'; have hb4 := Fut.of hq'; clear hq'
              have hs4 := hb4.size
              have c4 := C0.out.below hb4 hb'
              have b4 : Below w.heap.size w w4 := hbr.trans (hb4.mono hsr)
              have HO4 := hide (OwnV.below HO.out hb4)
              have HR4 := hide (VS.below HR.out hb4 (Nat.le_refl _))
              unfold VAt at c4
              clear n0 m0
              cases xb
              · go_wp2_with (go_at_call 61; refine (HL.out _ HR4.out).mono ?_; unfold RetVB; rintro e w5 ⟨rfl, hb5⟩)
                go_roundw
                case rel => exact ⟨i + 1, by omega, by go_num, by rw [HS.out, ← HQ.out]; simpa using (OwnV.below (OwnV.below HO4.out hb5) ((Below.refl _ _).alloc (Nat.le_refl _) _)), (b4.trans (hb5.mono (by omega))).alloc (by have := hb5.size; omega) _⟩
                case measure => simp [intOf]; omega
              · go_wp2_with (first
                  | (go_at_call 61; refine (HL.out _ HR4.out).mono ?_; unfold RetVB; rintro e w5 ⟨rfl, hb5⟩)
                  | (at_builtin; refine wpList_append_rd _ rfl _ _ 22 rfl w.heap.size 40 i0 _ 4 32 Try.underlying22 hi hz0 hz1 hz2 rfl (by decide) _ _ _ rfl (OwnV.below (OwnV.below (OwnV.below HO4.out hb5) ((Below.refl _ _).alloc (Nat.le_refl _) _)) ((Below.refl _ _).alloc (Nat.le_refl _) _)) (some ⟨w5.heap.size + 1, 0, none⟩) 1 1 (Ver.cells ⟨xk, xt, xv, xg⟩) rfl rfl (Rd.new_row2 _ _ _ _) (by simpa using ver_one [⟨xk, xt, xv, xg⟩]) ?_ ?_ ?_ ?_))
                · simp only [maxLen]; omega
                · omega
                · have := hb5.size; simp; omega
                intro v' w6 hown' hgrow _
                go_wp2
                go_roundw
                case rel =>
                  refine ⟨i + 1, by omega, by go_num, by rw [HS.out, ← HQ.out]; exact OwnV.snoc hown' rfl rfl, ?_⟩
                  have := hb5.size
                  exact (((b4.trans (hb5.mono (by omega))).alloc (by omega) _).alloc (by simp; omega) _).grown hgrow (by simp; omega) (fun k hk => (HO4.out.lt k hk).1)
                case measure => simp [intOf]; omega
        · obtain ⟨A6, c6, rfl, hlc6, hcm6, hvs6⟩ := HO.out.form
          go_wp2
          go_ret2
          have hd : o = rReadL l t := by rw [HQ.out, show i = l.length from by omega]; rfl
          rw [← hd]
          exact ⟨A6, c6, rfl, hlc6, hcm6, hvs6, hbr⟩
end Go.Proofs.Ytejpfcomgamhjaa
