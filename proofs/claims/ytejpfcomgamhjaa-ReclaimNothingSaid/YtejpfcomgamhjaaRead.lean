/-
  The walk of versions.Read.
-/
import Derived.Test.YtejpfcomgamhjaaAt
import Derived.Test.YtejpfcomgamhjaaPut
import Derived.WalkMore
import Derived.Deep.LoopGhost
namespace Go.Proofs.Ytejpfcomgamhjaa
open Go.RowKit
set_option maxHeartbeats 2000000 in
theorem read_good (A : Option Addr) (c : Nat) (l : List Ver) (t : Int) (w : World) (h : VS w A l) (hv : validB l = true) (ht : stampB t = true) :
    Calls Try.prog 26 #[.slice A l.length c, .int .i64 t] w (RetVE w (readL l t, 0)) := by
  have htB : (decide (1 ≤ t) && decide (t ≤ 3000000000000000)) = stampB t := rfl
  have hst := (sto_iff l).1 hv
  have hn : l.length ≤ 4000 := hst.len
  obtain ⟨i0, hi, hz0, hz1, hz2⟩ := info_parts infoV
  go_enter Try.func26, Try.ntmps26
  go_wp2
  go_step3
  go_wp2_with (first | (go_at_call 27; with_reducible refine (valid_any A c l _ (by omega) h).mono ?_; rw [hv]; rintro e w1 ⟨rfl, hb⟩) | (go_at_call 49; refine (isStamp_any _ _).mono ?_; rw [htB, ht]; rintro e w2 ⟨rfl, rfl⟩))
  go_step3
  go_wp2
  clear hv ht htB
  go_loopw [6, 7, 8, 9] (fun u6 u7 _ _ wr => ∃ (i : Nat) (p : Option Int) (o : List Ver), i ≤ l.length ∧ u7 = .int .i64 i ∧ (∀ hi : i < l.length, p ≠ some l[i].key ∧ ∀ j (hj : j < l.length), j < i → l[j].key < l[i].key) ∧
      (readL l t = o ++ (heads p (l.drop i)).filterMap fun k => showV (lastV l k t)) ∧ OwnV wr w.heap.size u6 o ∧ o.length ≤ i ∧ Below w.heap.size w wr)
    (fun _ u7 _ _ _ => l.length - (intOf u7).toNat)
  case atStart => exact ⟨0, none, [], Nat.zero_le _, rfl, fun hi => ⟨by simp, fun j _ hj => by omega⟩, by simp [readL], World.ownsRow_nil _ _ _ _, Nat.le_refl _, hb⟩
  case round =>
    obtain ⟨i, p, o, hil, rfl, hfst, hout, hown, hol, hbr⟩ := hrel
    have HF := hide hfst
    have HO := hide hout
    have HW := hide hown
    clear hfst hout hown
    by_cases hlt : i < l.length
    · have hr := h.below hbr (Nat.le_refl _)
      obtain ⟨b', o', rfl, hb', hc⟩ := hr.at_ hlt
      have c0 := hc i hlt
      have HR := hide hr
      unfold VAt at c0
      clear hc hr
      have hup := fun k t => upN_spec hst.up k t
      have HU := hide hup
      clear hup
      obtain ⟨x, hx⟩ : ∃ x, x = lastV l l[i].key t := ⟨_, rfl⟩
      have hlast := fun w1 h1 => last_any (some ⟨b', o', none⟩) c l l[i].key t (upN l l[i].key t) w1 (by omega) h1 (HU.out _ _)
      change ∀ w1 h1, Calls _ _ _ w1 (fun e w' => e = .returned (lastV l l[i].key t).val ∧ Below w1.heap.size w1 w') at hlast
      rw [← hx] at hlast
      obtain ⟨xk, xt, xv, xg⟩ := x
      have HL := hide hlast
      have HX := hide hx
      clear hlast hx
      go_upto_region 9 with (first
        | (go_at_call 50; refine (HL.out _ HR.out).mono ?_; unfold Ver.val; rintro e w3 ⟨rfl, hb3⟩)
        | (go_at_call 51; refine (upTo_any _ c l l[i].key 3000000000000000 (upN l l[i].key 3000000000000000) _ (by omega) ((VS.below HR.out hb3 (Nat.le_refl _)).alloc _) (HU.out _ _)).mono ?_; rintro e w4 ⟨rfl, hb4⟩; have q := (Blk.new _ _ _).below hb4 (by simp); have qc := q.cell; have qf := q.frozen))
      have hN := HU.out l[i].key 3000000000000000
      have hgr := drop_group hst hlt (HF.out hlt).2
      have hround := read_round hst (t := t) hlt (HF.out hlt).1 (HF.out hlt).2 HO.out
      have hnext := fun hn => next_first hst hlt hn
      rw [← HX.out] at hround
      have b4 : Below w.heap.size w w4 := hbr.trans ((hb3.mono hbr.size).trans (((Below.refl _ _).alloc (by have := hb3.size; have := hbr.size; omega) _).trans (hb4.mono (by have := hb3.size; have := hbr.size; simp; omega))))
      have how : OwnV w4 w.heap.size u6 o := ((OwnV.below HW.out hb3).below ((Below.refl _ _).alloc (Nat.le_refl _) _)).below hb4
      have hs4 : w3.heap.size < w4.heap.size := q.lt
      have hs3 : wr.heap.size ≤ w3.heap.size := hb3.size
      have hsr : w.heap.size ≤ wr.heap.size := hbr.size
      have HN := hide hN
      have HG := hide hgr
      have HD := hide hround
      have HE := hide hnext
      have HH := hide how
      clear hN hgr hround hnext how
      have hres : ((eqB xk xt xv xg 0 0 0 false = true ∨ (eqB xk xt xv xg 0 0 0 false = false ∧ xg = true)) ∧ (showV ⟨xk, xt, xv, xg⟩).toList = []) ∨
          (eqB xk xt xv xg 0 0 0 false = false ∧ xg = false) ∧ (showV ⟨xk, xt, xv, xg⟩).toList = [⟨xk, xt, xv, xg⟩] := by
        by_cases hz : (⟨xk, xt, xv, xg⟩ : Ver) = Ver.zero
        · exact .inl ⟨.inl (decide_eq_true hz), by unfold showV; rw [if_pos (.inl hz)]; rfl⟩
        · have he : eqB xk xt xv xg 0 0 0 false = false := decide_eq_false hz
          by_cases hg : xg = true
          · exact .inl ⟨.inr ⟨he, hg⟩, by unfold showV; rw [if_pos (.inr hg)]; rfl⟩
          · exact .inr ⟨⟨he, by simpa using hg⟩, by unfold showV; rw [if_neg (fun h => h.elim hz hg)]; rfl⟩
      rcases hres with ⟨hz | ⟨hz, rfl⟩, hp⟩ | ⟨⟨hz, rfl⟩, hp⟩
      · have HP := hide hp
        clear hp
        go_wp2
        go_roundw
        case rel => exact ⟨upN l l[i].key 3000000000000000, some l[i].key, o, HN.out.le, rfl, fun hn => ⟨(HE.out hn).2, (HE.out hn).1⟩, by rw [HD.out, HP.out, List.append_nil], HH.out, by have := HG.out.2; omega, b4⟩
        case measure => have := HG.out.2; simp [intOf]; omega
      · have HP := hide hp
        clear hp
        go_wp2
        go_roundw
        case rel => exact ⟨upN l l[i].key 3000000000000000, some l[i].key, o, HN.out.le, rfl, fun hn => ⟨(HE.out hn).2, (HE.out hn).1⟩, by rw [HD.out, HP.out, List.append_nil], HH.out, by have := HG.out.2; omega, b4⟩
        case measure => have := HG.out.2; simp [intOf]; omega
      · have HP := hide hp
        clear hp
        go_wp2_with (at_builtin; refine wpList_append_rd _ rfl _ _ 22 rfl w.heap.size 40 i0 _ 4 32 Try.underlying22 hi hz0 hz1 hz2 rfl (by decide) _ _ _ rfl (OwnV.below HH.out ((Below.refl _ _).alloc (Nat.le_refl _) _)) (some ⟨w4.heap.size, 0, none⟩) 1 1 (Ver.cells ⟨xk, xt, xv, false⟩) rfl rfl (Rd.new_row _ _ _) (by simpa using ver_one [⟨xk, xt, xv, false⟩]) ?_ ?_ ?_ ?_)
        · simp only [maxLen]; omega
        · omega
        · simp; omega
        intro v' w5 hown' hgrow _
        go_wp2
        go_roundw
        case rel =>
          refine ⟨upN l l[i].key 3000000000000000, some l[i].key, o ++ [⟨xk, xt, xv, false⟩], HN.out.le, rfl, fun hn => ⟨(HE.out hn).2, (HE.out hn).1⟩, by rw [HD.out, HP.out], by simpa [OwnV] using hown', by have := HG.out.2; simp; omega, ?_⟩
          exact (b4.alloc (by omega) _).grown hgrow (by simp; omega) (fun k hk => (HH.out.lt k hk).1)
        case measure => have := HG.out.2; simp [intOf]; omega
    · obtain ⟨A6, c6, rfl, hlc6, hcm6, hvs6⟩ := HW.out.form
      go_wp2
      try rw [Exit.noGoto_ret]
      go_ret2
      have hd : o = readL l t := by rw [HO.out, List.drop_eq_nil_of_le (by omega)]; simp [heads]
      rw [← hd]
      exact ⟨A6, c6, rfl, hlc6, hcm6, hvs6, hbr⟩
end Go.Proofs.Ytejpfcomgamhjaa
