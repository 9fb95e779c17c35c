/-
  The walk of the law VersionsStable.
-/
import Derived.Test.YtejpfcomgamhjaaPl33u
import Derived.Test.YtejpfcomgamhjaaLp33
namespace Go.Proofs.Ytejpfcomgamhjaa
open Go.RowKit
theorem filter_take {α : Type} (p : α → Bool) {l : List α} {k : Nat} (hk : k < l.length) : (l.take (k + 1)).filter p = (l.take k).filter p ++ (if p l[k] = true then [l[k]] else []) := by
  rw [List.take_succ_eq_append_getElem hk, List.filter_append]
  cases h : p l[k] <;> simp [h]
set_option maxHeartbeats 4000000 in
theorem stable_walk (A : Option Addr) (c : Nat) (l : List Ver) (ts : Int) (w : World) (hn : l.length ≤ 9223372036854775807) (h : VS w A l) :
    Calls Try.prog 12 #[.slice A l.length c, .int .i64 ts] w fun e w' => e = .returned (.bool true) ∧ Below w.heap.size w w' := by
  have HH := hide head_any
  have BB := hide (Below.refl w.heap.size w)
  have S := hide h
  have U0 := fun W (s : VS W A l) => usable_any A c l W hn s
  cases hu : usableB l
  · rw [hu] at U0
    have U1 := hide U0
    clear U0 hu
    go_enter Try.func12, Try.ntmps12
    go_wp2_with (first
      | (go_at_call 30; refine (HH.out _).mono ?_; rintro e w1 ⟨rfl, hb⟩; have S := hide (S.out.then_ hb); have BB := hide (thenB BB.out hb); clear hb)
      | (go_at_call 38; refine (U1.out _ S.out).mono ?_; rintro e w2 ⟨rfl, hb⟩; have S := hide (S.out.then_ hb); have BB := hide (thenB BB.out hb); clear hb))
    go_ret
    exact ⟨rfl, BB.out⟩
  · rw [hu] at U0
    have U1 := hide U0
    obtain ⟨h60, hst⟩ := usable_sto hu
    clear U0 hu
    obtain ⟨i0, hi, hz0, hz1, hz2⟩ := info_parts infoV
    have hstab := read_stable hst ts
    obtain ⟨⟨rl, re⟩, hr⟩ : ∃ x, x = readS l ts := ⟨_, rfl⟩
    have R01 := fun W (s : VS W A l) => read_any A c l ts W hn s
    rw [← hr] at R01 hstab
    obtain ⟨f, hf⟩ : ∃ f : List Ver, f = l.filter fun v => decide (v.ts ≤ ts) := ⟨_, rfl⟩
    rw [← hf] at hstab
    have hfl : f.length ≤ l.length := by rw [hf]; exact List.length_filter_le _ _
    have R02 := fun (B : Option Addr) (d : Nat) (W : World) (s : VS W B f) => read_any B d f ts W (by omega) s
    rw [hstab] at R02
    have R1 := hide R01
    have R2 := hide R02
    unfold RetVE at R1 R2
    have HF := hide hf
    clear R01 R02 hr hstab hf hst
    have e4 : (re == re) = true := by simp
    go_enter Try.func12, Try.ntmps12
    go_wp2_with (first
      | (go_at_call 30; refine (HH.out _).mono ?_; rintro e w1 ⟨rfl, hb⟩; have S := hide (S.out.then_ hb); have BB := hide (thenB BB.out hb); clear hb)
      | (go_at_call 38; refine (U1.out _ S.out).mono ?_; rintro e w2 ⟨rfl, hb⟩; have S := hide (S.out.then_ hb); have BB := hide (thenB BB.out hb); clear hb))
    go_loopw [6, 8, 20] (fun u6 _ i wr => ∃ k : Nat, k ≤ l.length ∧ i = .int .i64 k ∧ OwnV wr w.heap.size u6 ((l.take k).filter fun v => decide (v.ts ≤ ts)) ∧ VS wr A l ∧ Below w.heap.size w wr) (fun _ _ i _ => l.length - (intOf i).toNat)
    case atStart => exact ⟨0, Nat.zero_le _, rfl, by rw [List.take_zero]; exact World.ownsRow_nil _ _ _ _, S.out, BB.out⟩
    case round =>
      obtain ⟨k, hk, rfl, hown, hs, hb⟩ := hrel
      have hstep := fun hlt => filter_take (fun v : Ver => decide (v.ts ≤ ts)) (l := l) (k := k) hlt
      have hol : ((l.take k).filter fun v => decide (v.ts ≤ ts)).length ≤ k := Nat.le_trans (List.length_filter_le _ _) (by simp; omega)
      have HO := hide hown
      have HT := hide hstep
      clear hown hstep
      by_cases hlt : k < l.length
      · obtain ⟨o, ho⟩ : ∃ o, o = (l.take k).filter fun v => decide (v.ts ≤ ts) := ⟨_, rfl⟩
        rw [← ho] at HO hol HT
        clear ho
        obtain ⟨b, o', rfl, hbl, hc⟩ := hs.at_ hlt
        have c0 := hc k hlt
        have HS := hide hs
        have hsz := hb.size
        unfold VAt at c0
        clear hc hs
        by_cases hq : l[k].ts ≤ ts
        · have q1 : decide (l[k].ts ≤ ts) = true := decide_eq_true hq
          have HR := hide (show ((l.take (k + 1)).filter fun v => decide (v.ts ≤ ts)) = o ++ [l[k]] by rw [HT.out hlt, if_pos q1])
          clear hq
          go_wp2_with (at_builtin; refine wpList_append_rd _ rfl _ _ 22 rfl w.heap.size 40 i0 _ 4 32 Try.underlying22 hi hz0 hz1 hz2 rfl (by decide) _ _ _ rfl (OwnV.below (OwnV.below HO.out ((Below.refl _ _).alloc (Nat.le_refl _) _)) ((Below.refl _ _).alloc (Nat.le_refl _) _)) (some ⟨wr.heap.size + 1, 0, none⟩) 1 1 (Ver.cells l[k]) rfl rfl (Rd.new_row2 _ _ _ _) (by simpa using ver_one [l[k]]) ?_ ?_ ?_ ?_)
          · simp only [maxLen]; omega
          · omega
          · simp; omega
          intro v' w6 hown' hgrow _
          have b6 : Below w.heap.size w w6 := ((hb.alloc hsz _).alloc (by simp; omega) _).grown hgrow (by simp; omega) (fun g hg => (HO.out.lt g hg).1)
          go_wp2
          go_roundw
          case rel => exact ⟨k + 1, by omega, by go_num, by rw [HR.out]; exact OwnV.snoc hown' rfl rfl, h.then_ b6, b6⟩
          case measure => simp [intOf]; omega
        · have q1 : decide (l[k].ts ≤ ts) = false := decide_eq_false hq
          have HR := hide (show ((l.take (k + 1)).filter fun v => decide (v.ts ≤ ts)) = o by rw [HT.out hlt, if_neg (by simp [q1]), List.append_nil])
          clear hq
          go_wp2
          go_roundw
          case rel => exact ⟨k + 1, by omega, by go_num, by rw [HR.out]; exact OwnV.below HO.out ((Below.refl _ _).alloc (Nat.le_refl _) _), HS.out.alloc _, hb.alloc hsz _⟩
          case measure => simp [intOf]; omega
      · have hd : ((l.take k).filter fun v => decide (v.ts ≤ ts)) = f := by rw [HF.out, List.take_of_length_le (by omega)]
        rw [hd] at HO
        clear hd hol HT
        obtain ⟨A6, c6, rfl, hlc6, hcm6, hvs6⟩ := HO.out.form
        have S := hide hs
        have S6 := hide hvs6
        have BB := hide hb
        clear hs hvs6 hb
        go_wp2_with (first
          | (go_at_call 26; with_reducible refine (R1.out _ S.out).mono ?_; rintro e w7 ⟨A7, c7, rfl, hl7, hm7, hs7, hb⟩; have L1 := hide (Nat.le_trans hl7 hm7); have S6 := hide (S6.out.then_ hb); have BB := hide (thenB BB.out hb); have T1 := hide hs7; clear hb hs7)
          | (go_at_call 26; with_reducible refine (R2.out _ _ _ S6.out).mono ?_; rintro e w8 ⟨A8, c8, rfl, _, _, hs8, hb⟩; have BB := hide (thenB BB.out hb); have T1 := hide (T1.out.then_ hb); have T2 := hide hs8; clear hb hs8)
          | (go_at_call 21; refine (same_self _ _ _ _ rl _ L1.out T1.out T2.out).mono ?_; rintro e w9 ⟨rfl, hb⟩; have BB := hide (thenB BB.out hb); clear hb))
        go_ret
        exact ⟨rfl, BB.out⟩
end Go.Proofs.Ytejpfcomgamhjaa
