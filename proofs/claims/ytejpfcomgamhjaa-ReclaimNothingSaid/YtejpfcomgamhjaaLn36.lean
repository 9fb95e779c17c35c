/-
  The walk of the law ReclaimNothing.
-/
import Derived.Test.YtejpfcomgamhjaaHead36
namespace Go.Proofs.Ytejpfcomgamhjaa
open Go.RowKit
theorem any_take36 {α : Type} (p : α → Bool) {l : List α} {k : Nat} (hk : k < l.length) : (l.take (k + 1)).any p = ((l.take k).any p || p l[k]) := by
  rw [List.take_succ_eq_append_getElem hk, List.any_append]
  simp
theorem at_stL {l : List Ver} (hs : Sto l) {h : Int} (he : edgeB h = true) {v : Ver} (hv : v ∈ stL l h) : atS (stL l h) v.key (max v.ts h) = if v.gone = true then (Ver.zero, false, 0) else (v, true, 0) := by
  have hwf := hs.wf v (mem_stL.1 hv).1
  simp only [wfB, Bool.and_eq_true, decide_eq_true_eq] at hwf
  simp only [edgeB, Bool.and_eq_true, decide_eq_true_eq] at he
  have hk : keyB v.key = true := by simp only [keyB, Bool.and_eq_true, decide_eq_true_eq]; omega
  have ht : stampB (max v.ts h) = true := by simp only [stampB, Bool.and_eq_true, decide_eq_true_eq]; omega
  have hz : ¬v = Ver.zero := fun e => by have h1 : v.key = 0 := (by rw [e]; rfl); omega
  unfold atS
  rw [(sto_iff _).2 (sto_stL hs h), hk, ht, stL_last hs hv]
  by_cases hg : v.gone = true
  · rw [if_neg (by simp), if_pos (.inr hg), if_pos hg]
  · rw [if_neg (by simp), if_neg (by rintro (e | e); exact hz e; exact hg e), if_neg hg]
set_option maxHeartbeats 4000000 in
theorem nothing36_walk (A : Option Addr) (c : Nat) (l : List Ver) (h : Int) (w : World) (hn : l.length ≤ 9223372036854775807) (hs : VS w A l) :
    Calls Try.prog 8 #[.slice A l.length c, .int .i64 h] w fun e w' => e = .returned (.bool true) ∧ Below w.heap.size w w' := by
  have HH := hide head36_any
  have T := hide (AllV.one hs)
  have BB := hide (Below.refl w.heap.size w)
  have U0 := fun W (s : VS W A l) => usable36_any A c l h W hn s
  cases hu : usable36B l h
  · rw [hu] at U0
    have U1 := hide U0
    clear U0 hu
    go_enter Try.func8, Try.ntmps8
    go_wp2_with (first | (go_at_call 16; refine (HH.out _).mono ?_; rintro e w1 ⟨rfl, hb⟩; have T := hide (T.out.then_ hb); have BB := hide (thenB BB.out hb); clear hb) | (go_at_call 24; refine (U1.out _ (T.out.get (A := A) (l := l) (by simp))).mono ?_; rintro e w2 ⟨rfl, hb⟩; have T := hide (T.out.then_ hb); have BB := hide (thenB BB.out hb); clear hb))
    go_ret
    exact ⟨rfl, BB.out⟩
  · rw [hu] at U0
    have U1 := hide U0
    obtain ⟨h60, hst, he⟩ := usable36_sto hu
    clear U0 hu
    have C0 := fun W (s : VS W A l) => reclaim_any A c l h W hn s
    rw [reclaim_ok hst he] at C0
    have hml := stL_len l h
    have hat := fun v (hv : v ∈ stL l h) => at_stL hst he hv
    have hmem := fun v (hv : v ∈ stL l h) => mem_stL.1 hv
    obtain ⟨m, hm⟩ : ∃ m, m = stL l h := ⟨_, rfl⟩
    rw [← hm] at C0 hml hat hmem
    have A0 := fun (v : Ver) E e W (s : VS W E m) => at_any E e m v.key (max v.ts h) W (by omega) s
    have C1 := hide C0
    unfold RetVE at C1
    have A1 := hide A0
    have HAT := hide hat
    have HM := hide hmem
    clear C0 hm hat hmem A0 hst he
    go_enter Try.func8, Try.ntmps8
    go_wp2_with (first
      | (go_at_call 16; refine (HH.out _).mono ?_; rintro e w1 ⟨rfl, hb⟩; have T := hide (T.out.then_ hb); have BB := hide (thenB BB.out hb); clear hb)
      | (go_at_call 24; refine (U1.out _ (T.out.get (A := A) (l := l) (by simp))).mono ?_; rintro e w2 ⟨rfl, hb⟩; have T := hide (T.out.then_ hb); have BB := hide (thenB BB.out hb); clear hb)
      | (go_at_call 19; with_reducible refine (C1.out _ (T.out.get (A := A) (l := l) (by simp))).mono ?_; rintro e w4 ⟨A4, c4, rfl, hl4, hm4, hs4, hb⟩; have T := hide (T.out.then_ hb); have BB := hide (thenB BB.out hb); clear hb; have T := hide (T.out.add hs4); clear hs4))
    go_loopw [9, 10, 12, 13, 14, 15, 32] (fun _ _ _ _ _ _ i wr => ∃ k : Nat, k ≤ m.length ∧ i = .int .i64 k ∧ AllV wr [(A4, m), (A, l)] ∧ Below w.heap.size w wr) (fun _ _ _ _ _ _ i _ => m.length - (intOf i).toNat)
    case atStart => exact ⟨0, Nat.zero_le _, rfl, T.out, BB.out⟩
    case round =>
      clear T BB
      obtain ⟨k, hk, rfl, ht, hb⟩ := hrel
      have T := hide ht
      have BB := hide hb
      by_cases hlt : k < m.length
      · obtain ⟨b, o, hA4, hbl, hc⟩ := (T.out.get (A := A4) (l := m) (by simp)).at_ hlt
        subst hA4
        have c0 := hc k hlt
        have hvm := HM.out m[k] (List.getElem_mem hlt)
        have hva := HAT.out m[k] (List.getElem_mem hlt)
        obtain ⟨v, hv⟩ : ∃ v, v = m[k] := ⟨_, rfl⟩
        rw [← hv] at c0 hvm hva
        obtain ⟨hvl, hvs⟩ := hvm
        have AV := hide (A1.out v)
        rw [hva] at AV
        obtain ⟨vk, vt, vv, vg⟩ := v
        dsimp only at hvs AV
        unfold VAt at c0
        dsimp only at c0
        have hsz := hb.size
        clear hc ht hb hv hva
        have T := hide (T.out.then_ ((Below.refl _ _).alloc (Nat.le_refl _) (.cells #[.int .i64 vk, .int .i64 vt, .int .i64 vv, .bool vg] 40)))
        have BB := hide (BB.out.alloc hsz (.cells #[.int .i64 vk, .int .i64 vt, .int .i64 vv, .bool vg] 40))
        have N := hide (VAt.new (w := wr) (v := ⟨vk, vt, vv, vg⟩) (t := 40) rfl)
        go_wp2_with fail
        rename World => wo
        go_loopw [10, 12, 38] (fun has _ i wi => ∃ j : Nat, j ≤ l.length ∧ i = .int .i64 j ∧ has = .bool ((l.take j).any (fun x => decide (x = ⟨vk, vt, vv, vg⟩))) ∧ AllV wi [(some ⟨b, o, none⟩, m), (A, l)] ∧ VAt wi wo.heap.size 0 ⟨vk, vt, vv, vg⟩ ∧ Below w.heap.size w wi) (fun _ _ i _ => l.length - (intOf i).toNat)
        case atStart => exact ⟨0, Nat.zero_le _, rfl, rfl, T.out, N.out, BB.out⟩
        case round =>
          clear T BB N
          obtain ⟨j, hj, rfl, rfl, ht, hn1, hb⟩ := hrel
          have T := hide ht
          have N := hide hn1
          have BB := hide hb
          have hsz2 := hb.size
          have hlo := hn1.lt
          by_cases hjl : j < l.length
          · obtain ⟨b2, o2, hA2, hbl2, hc⟩ := (T.out.get (A := A) (l := l) (by simp)).at_ hjl
            subst hA2
            have c1 := hc j hjl
            have hstep := any_take36 (fun x => decide (x = (⟨vk, vt, vv, vg⟩ : Ver))) hjl
            obtain ⟨⟨xk, xt, xv, xg⟩, hx⟩ : ∃ x, x = l[j] := ⟨_, rfl⟩
            rw [← hx] at c1 hstep
            obtain ⟨h0, hh0⟩ : ∃ b, b = (l.take j).any (fun x => decide (x = (⟨vk, vt, vv, vg⟩ : Ver))) := ⟨_, rfl⟩
            rw [← hh0] at hstep ⊢
            have HS := hide hstep
            have T := hide (T.out.then_ ((Below.refl _ _).alloc (Nat.le_refl _) (.cells #[.int .i64 xk, .int .i64 xt, .int .i64 xv, .bool xg] 40)))
            have BB := hide (BB.out.alloc hsz2 (.cells #[.int .i64 xk, .int .i64 xt, .int .i64 xv, .bool xg] 40))
            have N := hide (N.out.alloc (.cells #[.int .i64 xk, .int .i64 xt, .int .i64 xv, .bool xg] 40))
            have n2 := N.out
            unfold VAt at c1 n2
            dsimp only at c1 n2
            have ne1 : ¬ wr.heap.size = wo.heap.size := by omega
            have ne2 : ¬ wo.heap.size = wr.heap.size := by omega
            clear hc ht hn1 hb hx hstep hh0
            cases h0
            all_goals
              go_wp2
              go_roundw
              case rel => exact ⟨j + 1, by omega, by go_num, by rw [HS.out]; rfl, T.out, N.out, BB.out⟩
              case measure => simp [intOf]; omega
          · have hall : (l.take j).any (fun x => decide (x = (⟨vk, vt, vv, vg⟩ : Ver))) = true := by
              rw [List.take_of_length_le (by omega), List.any_eq_true]
              exact ⟨_, hvl, by simp⟩
            rw [hall]
            unfold VAt at hn1
            dsimp only at hn1
            clear hall ht hb
            cases vg
            · have e8 : eqB vk vt vv false vk vt vv false = true := by simp [eqB]
              rw [if_neg (by simp)] at AV
              rcases (show (vt < h) = True ∧ max vt h = h ∨ (vt < h) = False ∧ max vt h = vt by by_cases q : vt < h; exact .inl ⟨by simp [q], by omega⟩; exact .inr ⟨by simp [q], by omega⟩) with ⟨e1, e2⟩ | ⟨e1, e2⟩
              all_goals
              rw [e2] at AV
              clear e2 hvs
              have H8 := hide (fun e (hb8 : Below wr.heap.size wr e) => (⟨(N.out.then_ hb8).alloc (.cells #[.int .i64 vk, .int .i64 vt, .int .i64 vv, .bool false] 40), VAt.new (w := e) (v := ⟨vk, vt, vv, false⟩) (t := 40) rfl, (T.out.then_ hb8).then_ ((Below.refl _ _).alloc (Nat.le_refl _) (.cells #[.int .i64 vk, .int .i64 vt, .int .i64 vv, .bool false] 40)), (thenB BB.out hb8).alloc (thenB BB.out hb8).size (.cells #[.int .i64 vk, .int .i64 vt, .int .i64 vv, .bool false] 40), by have := hb8.size; omega⟩ : VAt (e.alloc (.cells #[.int .i64 vk, .int .i64 vt, .int .i64 vv, .bool false] 40)) wo.heap.size 0 ⟨vk, vt, vv, false⟩ ∧ VAt (e.alloc (.cells #[.int .i64 vk, .int .i64 vt, .int .i64 vv, .bool false] 40)) e.heap.size 0 ⟨vk, vt, vv, false⟩ ∧ AllV (e.alloc (.cells #[.int .i64 vk, .int .i64 vt, .int .i64 vv, .bool false] 40)) [(some ⟨b, o, none⟩, m), (A, l)] ∧ Below w.heap.size w (e.alloc (.cells #[.int .i64 vk, .int .i64 vt, .int .i64 vv, .bool false] 40)) ∧ ¬ e.heap.size = wo.heap.size))
              go_wp2_with (go_at_call 29; with_reducible refine (AV.out (some ⟨b, o, none⟩) c4 _ (T.out.get (A := some ⟨b, o, none⟩) (l := m) (by simp))).mono ?_; unfold RetVBE; rintro e w8 ⟨rfl, hb8⟩; obtain ⟨n8, n9, t8, b8, ne8⟩ := H8.out w8 hb8; unfold VAt at n8 n9; dsimp only at n8 n9; have ne9 : ¬ wo.heap.size = w8.heap.size := (by omega); have T8 := hide t8; have B8 := hide b8; clear hb8 t8 b8)
              go_roundw
              case rel => exact ⟨k + 1, by omega, by go_num, T8.out, B8.out⟩
              case measure => simp [intOf]; omega
            · have hlt3 : h < vt := by rcases hvs with q | ⟨q, _⟩; exact q; cases q
              have d3 : decide (vt ≤ h) = false := by simp; omega
              have e1 : (vt < h) = False := by simp; omega
              rw [if_pos rfl, show max vt h = vt by omega, show Ver.zero = ⟨0, 0, 0, false⟩ from rfl] at AV
              clear hvs hlt3
              have H8 := hide (fun e (hb8 : Below wr.heap.size wr e) => (⟨(N.out.then_ hb8).alloc (.cells #[.int .i64 0, .int .i64 0, .int .i64 0, .bool false] 40), VAt.new (w := e) (v := ⟨0, 0, 0, false⟩) (t := 40) rfl, (T.out.then_ hb8).then_ ((Below.refl _ _).alloc (Nat.le_refl _) (.cells #[.int .i64 0, .int .i64 0, .int .i64 0, .bool false] 40)), (thenB BB.out hb8).alloc (thenB BB.out hb8).size (.cells #[.int .i64 0, .int .i64 0, .int .i64 0, .bool false] 40), by have := hb8.size; omega⟩ : VAt (e.alloc (.cells #[.int .i64 0, .int .i64 0, .int .i64 0, .bool false] 40)) wo.heap.size 0 ⟨vk, vt, vv, true⟩ ∧ VAt (e.alloc (.cells #[.int .i64 0, .int .i64 0, .int .i64 0, .bool false] 40)) e.heap.size 0 ⟨0, 0, 0, false⟩ ∧ AllV (e.alloc (.cells #[.int .i64 0, .int .i64 0, .int .i64 0, .bool false] 40)) [(some ⟨b, o, none⟩, m), (A, l)] ∧ Below w.heap.size w (e.alloc (.cells #[.int .i64 0, .int .i64 0, .int .i64 0, .bool false] 40)) ∧ ¬ e.heap.size = wo.heap.size))
              go_wp2_with (go_at_call 29; with_reducible refine (AV.out (some ⟨b, o, none⟩) c4 _ (T.out.get (A := some ⟨b, o, none⟩) (l := m) (by simp))).mono ?_; unfold RetVBE; rintro e w8 ⟨rfl, hb8⟩; obtain ⟨n8, n9, t8, b8, ne8⟩ := H8.out w8 hb8; unfold VAt at n8 n9; dsimp only at n8 n9; have ne9 : ¬ wo.heap.size = w8.heap.size := (by omega); have T8 := hide t8; have B8 := hide b8; clear hb8 t8 b8)
              go_roundw
              case rel => exact ⟨k + 1, by omega, by go_num, T8.out, B8.out⟩
              case measure => simp [intOf]; omega
      · clear ht hb
        go_wp2
        go_ret
        exact ⟨rfl, BB.out⟩
end Go.Proofs.Ytejpfcomgamhjaa
