/-
  The walk of the law ReclaimHorizon.
-/
import Derived.Test.YtejpfcomgamhjaaHead36
namespace Go.Proofs.Ytejpfcomgamhjaa
open Go.RowKit
theorem min_facts : ∀ (rs : List Int) (last : Int), rs.foldl min last ≤ last ∧ (∀ t ∈ rs, rs.foldl min last ≤ t) ∧ (rs.foldl min last = last ∨ rs.foldl min last ∈ rs)
  | [], last => ⟨Int.le_refl _, by simp, .inl rfl⟩
  | x :: rs, last => by
    obtain ⟨h1, h2, h3⟩ := min_facts rs (min last x)
    rw [List.foldl_cons]
    refine ⟨by omega, fun t ht => ?_, ?_⟩
    · rcases List.mem_cons.1 ht with rfl | ht
      · omega
      · exact h2 t ht
    · rcases h3 with h3 | h3
      · by_cases hx : x ≤ last
        · exact .inr (List.mem_cons.2 (.inl (by omega)))
        · exact .inl (by omega)
      · exact .inr (List.mem_cons.2 (.inr h3))
/-- n is last or one of the first k -/
def isH (rs : List Int) (last n : Int) (k : Nat) : Bool := (n == last) || (rs.take k).any (fun t => t == n)
theorem isH_step {rs : List Int} {last n : Int} {k : Nat} (hk : k < rs.length) : isH rs last n (k + 1) = (isH rs last n k || (rs[k] == n)) := by
  unfold isH
  rw [List.take_succ_eq_append_getElem hk, List.any_append]
  simp [Bool.or_assoc]
theorem horS_cases (rs : List Int) (last : Int) : horS rs last = (0, 1) ∨ horS rs last = (rs.foldl min last, 0) ∧ (∀ t ∈ rs, stampB t = true) ∧ rs.length ≤ 64 ∧ edgeB last = true := by
  unfold horS
  by_cases h : ((rs.any fun t => !stampB t) || decide (64 < rs.length) || !edgeB last) = true
  · rw [if_pos h]; exact .inl rfl
  · rw [if_neg h]
    simp only [Bool.or_eq_true, decide_eq_true_eq, Bool.not_eq_true', not_or] at h
    refine .inr ⟨rfl, fun t ht => ?_, by omega, by simpa using h.2⟩
    have h1 := h.1.1
    rw [List.any_eq_true] at h1
    cases hs : stampB t
    · exact absurd ⟨t, ht, by simp [hs]⟩ h1
    · rfl
theorem horS_ok {rs : List Int} {last : Int} (h1 : ∀ t ∈ rs, stampB t = true) (h2 : rs.length ≤ 64) (h3 : edgeB last = true) : horS rs last = (rs.foldl min last, 0) := by
  unfold horS
  have : rs.any (fun t => !stampB t) = false := by rw [List.any_eq_false]; intro x hx; simp [h1 x hx]
  rw [this, h3]
  simp; omega
set_option maxHeartbeats 4000000 in
theorem horizon36_walk (B : Option Addr) (d : Nat) (rs : List Int) (last more : Int) (w : World) (hn2 : rs.length ≤ 9223372036854775807) (his : IS w B rs) :
    Calls Try.prog 6 #[.slice B rs.length d, .int .i64 last, .int .i64 more] w fun e w' => e = .returned (.bool true) ∧ Below w.heap.size w w' := by
  have HH := hide head36_any
  have TI := hide his
  have BB := hide (Below.refl w.heap.size w)
  have H0 := fun W s => horizon_any B d rs last W hn2 s
  rcases horS_cases rs last with he | ⟨he, hst, hl64, hed⟩
  · rw [he] at H0
    have H1 := hide H0
    clear H0 he
    go_enter Try.func6, Try.ntmps6
    go_wp2_with (first
      | (go_at_call 16; refine (HH.out _).mono ?_; rintro e w1 ⟨rfl, hb⟩; have TI := hide (TI.out.then_ hb); have BB := hide (thenB BB.out hb); clear hb)
      | (go_at_call 17; with_reducible refine (H1.out _ TI.out).mono ?_; rintro e w2 ⟨rfl, hb⟩; have TI := hide (TI.out.then_ hb); have BB := hide (thenB BB.out hb); clear hb))
    go_ret
    exact ⟨rfl, BB.out⟩
  · rw [he] at H0
    obtain ⟨f1, f2, f3⟩ := min_facts rs last
    have g0 := horS_ok (rs := rs ++ [more]) (last := last)
    rw [List.foldl_append, List.foldl_cons, List.foldl_nil] at g0
    obtain ⟨n, hnn⟩ : ∃ n, n = rs.foldl min last := ⟨_, rfl⟩
    rw [← hnn] at H0 f1 f2 f3 g0
    have H1 := hide H0
    clear H0 he hnn
    by_cases hl63 : rs.length ≤ 63
    · have q1 : decide (63 < (rs.length : Int)) = false := by simp; omega
      cases hm : stampB more
      · have HM := hide hm
        clear hm f2 f3 g0 hst
        go_enter Try.func6, Try.ntmps6
        go_wp2_with (first
          | (go_at_call 16; refine (HH.out _).mono ?_; rintro e w1 ⟨rfl, hb⟩; have TI := hide (TI.out.then_ hb); have BB := hide (thenB BB.out hb); clear hb)
          | (go_at_call 17; with_reducible refine (H1.out _ TI.out).mono ?_; rintro e w2 ⟨rfl, hb⟩; have TI := hide (TI.out.then_ hb); have BB := hide (thenB BB.out hb); clear hb)
          | (go_at_call 25; refine (rStamp_any _ _).mono ?_; rw [HM.out]; rintro e w3 ⟨rfl, rfl⟩))
        go_ret
        exact ⟨rfl, BB.out⟩
      · have g1 := g0 (fun t ht => by rcases List.mem_append.1 ht with ht | ht; exact hst t ht; rw [List.mem_singleton.1 ht]; exact hm) (by simp; omega) hed
        have HM := hide hm
        have F0 := fun C e W (s : IS W C (rs ++ [more])) => horizon_any C e (rs ++ [more]) last W (by simp; omega) s
        rw [g1] at F0
        simp only [List.length_append, List.length_cons, List.length_nil, Nat.zero_add] at F0
        have F1 := hide F0
        have HF2 := hide f2
        have hall : isH rs last n rs.length = true := by
          unfold isH
          rw [List.take_length]
          rcases f3 with h | h
          · simp [h]
          · rw [Bool.or_eq_true, List.any_eq_true]; exact .inr ⟨n, h, by simp⟩
        have HA := hide hall
        have d1 : decide (n ≤ last) = true := decide_eq_true f1
        obtain ⟨i0, hi, hz0, hz1, hz2⟩ := info_parts infoI
        clear hm f2 f3 g0 g1 hst F0 hall hed f1
        go_enter Try.func6, Try.ntmps6
        go_wp2_with (first
          | (go_at_call 16; refine (HH.out _).mono ?_; rintro e w1 ⟨rfl, hb⟩; have TI := hide (TI.out.then_ hb); have BB := hide (thenB BB.out hb); clear hb)
          | (go_at_call 17; with_reducible refine (H1.out _ TI.out).mono ?_; rintro e w2 ⟨rfl, hb⟩; have TI := hide (TI.out.then_ hb); have BB := hide (thenB BB.out hb); clear hb)
          | (go_at_call 25; refine (rStamp_any _ _).mono ?_; rw [HM.out]; rintro e w3 ⟨rfl, rfl⟩))
        go_loopw [7, 10, 12, 48] (fun up is _ i wr => ∃ k : Nat, k ≤ rs.length ∧ i = .int .i64 k ∧ up = .bool true ∧ is = .bool (isH rs last n k) ∧ IS wr B rs ∧ Below w.heap.size w wr) (fun _ _ _ i _ => rs.length - (intOf i).toNat)
        case atStart => exact ⟨0, Nat.zero_le _, rfl, rfl, by simp [isH], TI.out, BB.out⟩
        case round =>
          clear TI BB
          obtain ⟨k, hk, rfl, rfl, rfl, hs, hb⟩ := hrel
          by_cases hlt : k < rs.length
          · obtain ⟨b, o, rfl, hbl, hc⟩ := hs.at_ hlt
            have c0 := hc k hlt
            have HS := hide hs
            have HB := hide hb
            have HK := hide (isH_step (last := last) (n := n) hlt)
            have d2 : decide (n ≤ rs[k]) = true := decide_eq_true (HF2.out _ (List.getElem_mem hlt))
            obtain ⟨b0, hb0⟩ : ∃ b, b = isH rs last n k := ⟨_, rfl⟩
            rw [← hb0] at HK ⊢
            clear hc hs hb hb0
            cases b0
            all_goals
              go_wp2
              go_roundw
              case rel => exact ⟨k + 1, by omega, by go_num, rfl, by rw [HK.out]; rfl, HS.out, HB.out⟩
              case measure => simp [intOf]; omega
          · have hk2 : isH rs last n k = true := by rw [show k = rs.length by omega]; exact HA.out
            rw [hk2]
            have TI := hide hs
            have BB := hide hb
            have hsz := hb.size
            clear hk2 hs hb
            go_wp2_with (at_builtin; refine wpList_append_rd _ rfl _ _ 23 rfl w.heap.size 3 i0 _ 1 8 Try.underlying23 hi hz0 hz1 hz2 rfl (by decide) _ 0 [] rfl (World.ownsRow_made _ #[] 0 hsz (by simp [maxLen]) rfl) B rs.length d (rs.map intV) rfl (by simp) (TI.out.alloc _) (int_one rs) ?_ ?_ ?_ ?_)
            · simp only [maxLen]; omega
            · omega
            · simp; omega
            intro v10 w10 hown hgrow _
            have b10 : Below wr.heap.size wr w10 := ((Below.refl _ _).alloc (Nat.le_refl _) _).grown hgrow (by simp) (fun g hg => by simp [Value.ownBlock] at hg; omega)
            have ho10 : OwnI w10 w.heap.size v10 rs := by simpa [OwnI] using hown
            have HO := hide ho10
            have B10 := hide (thenB BB.out b10)
            have hs10 := B10.out.size
            clear hown hgrow b10 ho10 TI BB
            go_wp2_with (at_builtin; refine wpList_append_rd _ rfl _ _ 23 rfl w.heap.size 3 i0 _ 1 8 Try.underlying23 hi hz0 hz1 hz2 rfl (by decide) _ _ _ rfl (OwnI.below HO.out ((Below.refl _ _).alloc (Nat.le_refl _) _)) (some ⟨w10.heap.size, 0, none⟩) 1 1 [intV more] rfl rfl (Rd.new_row _ _ _) (by simp [intV, Value.oneCell']) ?_ ?_ ?_ ?_)
            · simp only [maxLen]; omega
            · omega
            · simp; omega
            intro v6 w6 hown' hgrow _
            have b6 : Below w.heap.size w w6 := (B10.out.alloc hs10 _).grown hgrow (by simp; omega) (fun g hg => (HO.out.lt g hg).1)
            have hown6 : OwnI w6 w.heap.size v6 (rs ++ [more]) := by simpa [OwnI] using hown'
            obtain ⟨A6, c6, rfl, hlc6, hcm6, hs6⟩ := hown6.form
            simp only [List.length_append, List.length_cons, List.length_nil, Nat.zero_add]
            have HW := hide (F1.out A6 c6 w6 hs6)
            have B6 := hide b6
            clear hown' hgrow b6 hown6 hs6 B10 HO F1
            rw [Int.min_def] at HW
            by_cases hnm : n ≤ more
            · have e1 : (more < n) = False := by simp; omega
              rw [if_pos hnm] at HW
              go_wp2_with (go_at_call 17; with_reducible refine HW.out.mono ?_; rintro e w7 ⟨rfl, hb⟩; have BB := hide (thenB B6.out hb); clear hb)
              go_ret
              exact ⟨rfl, BB.out⟩
            · have e1 : (more < n) = True := by simp; omega
              rw [if_neg hnm] at HW
              go_wp2_with (go_at_call 17; with_reducible refine HW.out.mono ?_; rintro e w7 ⟨rfl, hb⟩; have BB := hide (thenB B6.out hb); clear hb)
              go_ret
              exact ⟨rfl, BB.out⟩
    · have q1 : decide (63 < (rs.length : Int)) = true := by simp; omega
      clear f2 f3 g0 hst
      go_enter Try.func6, Try.ntmps6
      go_wp2_with (first
        | (go_at_call 16; refine (HH.out _).mono ?_; rintro e w1 ⟨rfl, hb⟩; have TI := hide (TI.out.then_ hb); have BB := hide (thenB BB.out hb); clear hb)
        | (go_at_call 17; with_reducible refine (H1.out _ TI.out).mono ?_; rintro e w2 ⟨rfl, hb⟩; have TI := hide (TI.out.then_ hb); have BB := hide (thenB BB.out hb); clear hb))
      go_ret
      exact ⟨rfl, BB.out⟩
end Go.Proofs.Ytejpfcomgamhjaa
