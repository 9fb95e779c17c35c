/-
  The walk of the law ReclaimOpen.
-/
import Derived.Test.YtejpfcomgamhjaaHead36
import Derived.Test.YtejpfcomgamhjaaLh36
namespace Go.Proofs.Ytejpfcomgamhjaa
open Go.RowKit
set_option maxHeartbeats 4000000 in
theorem open36_walk (A : Option Addr) (c : Nat) (l : List Ver) (B : Option Addr) (d : Nat) (rs : List Int) (last : Int) (w : World) (hn : l.length ≤ 9223372036854775807) (hn2 : rs.length ≤ 9223372036854775807) (hs : VS w A l) (his : IS w B rs) :
    Calls Try.prog 7 #[.slice A l.length c, .slice B rs.length d, .int .i64 last] w fun e w' => e = .returned (.bool true) ∧ Below w.heap.size w w' := by
  have HH := hide head36_any
  have T := hide (AllV.one hs)
  have TI := hide his
  have BB := hide (Below.refl w.heap.size w)
  have H0 := fun W s => horizon_any B d rs last W hn2 s
  rcases horS_cases rs last with he | ⟨he, hst, hl64, hed⟩
  · rw [he] at H0
    have H1 := hide H0
    clear H0 he
    go_enter Try.func7, Try.ntmps7
    go_wp2_with (first
      | (go_at_call 16; refine (HH.out _).mono ?_; rintro e w1 ⟨rfl, hb⟩; have TI := hide (TI.out.then_ hb); have T := hide (T.out.then_ hb); have BB := hide (thenB BB.out hb); clear hb)
      | (go_at_call 17; with_reducible refine (H1.out _ TI.out).mono ?_; rintro e w2 ⟨rfl, hb⟩; have TI := hide (TI.out.then_ hb); have T := hide (T.out.then_ hb); have BB := hide (thenB BB.out hb); clear hb))
    go_ret
    exact ⟨rfl, BB.out⟩
  · rw [he] at H0
    obtain ⟨f1, f2, f3⟩ := min_facts rs last
    obtain ⟨n, hnn⟩ : ∃ n, n = rs.foldl min last := ⟨_, rfl⟩
    rw [← hnn] at H0 f1 f2 f3
    have H1 := hide H0
    clear H0 he hnn f1 f3
    have U0 := fun W (s : VS W A l) => usable36_any A c l n W hn s
    cases hu : usable36B l n
    · rw [hu] at U0
      have U1 := hide U0
      clear U0 hu f2 hst
      go_enter Try.func7, Try.ntmps7
      go_wp2_with (first
        | (go_at_call 16; refine (HH.out _).mono ?_; rintro e w1 ⟨rfl, hb⟩; have TI := hide (TI.out.then_ hb); have T := hide (T.out.then_ hb); have BB := hide (thenB BB.out hb); clear hb)
        | (go_at_call 17; with_reducible refine (H1.out _ TI.out).mono ?_; rintro e w2 ⟨rfl, hb⟩; have TI := hide (TI.out.then_ hb); have T := hide (T.out.then_ hb); have BB := hide (thenB BB.out hb); clear hb)
        | (go_at_call 24; refine (U1.out _ (T.out.get (A := A) (l := l) (by simp))).mono ?_; rintro e w3 ⟨rfl, hb⟩; have TI := hide (TI.out.then_ hb); have T := hide (T.out.then_ hb); have BB := hide (thenB BB.out hb); clear hb))
      go_ret
      exact ⟨rfl, BB.out⟩
    · rw [hu] at U0
      have U1 := hide U0
      obtain ⟨h60, hsto, hen⟩ := usable36_sto hu
      clear U0 hu
      have C0 := fun W (s : VS W A l) => reclaim_any A c l n W hn s
      rw [reclaim_ok hsto hen] at C0
      have hml := stL_len l n
      have Q0 := fun t (ht : stampB t = true) (hle : n ≤ t) => readRS_ok (sto_stL hsto n) hen ht hle
      have P0 := fun t (hle : n ≤ t) => readL_stL hsto hle
      obtain ⟨m, hm⟩ : ∃ m, m = stL l n := ⟨_, rfl⟩
      rw [← hm] at C0 hml Q0 P0
      have C1 := hide C0
      unfold RetVE at C1
      have R1 := hide (fun t (ht : t ∈ rs) W (s : VS W A l) => (by
        have := read_any A c l t W hn s
        rw [readS_ok hsto (hst t ht)] at this
        exact this : Calls Try.prog 26 #[.slice A l.length c, .int .i64 t] W (RetVE W (readL l t, 0))))
      have Q1 := hide (fun t (ht : t ∈ rs) E e W (s : VS W E m) => (by
        have := readR_any E e m n t W (by omega) s
        rw [Q0 t (hst t ht) (f2 t ht), P0 t (f2 t ht)] at this
        exact this : Calls Try.prog 22 #[.slice E m.length e, .int .i64 n, .int .i64 t] W (RetVE W (readL l t, 0))))
      unfold RetVE at R1 Q1
      clear C0 hm hst f2 hsto hen Q0 P0
      go_enter Try.func7, Try.ntmps7
      go_wp2_with (first
        | (go_at_call 16; refine (HH.out _).mono ?_; rintro e w1 ⟨rfl, hb⟩; have TI := hide (TI.out.then_ hb); have T := hide (T.out.then_ hb); have BB := hide (thenB BB.out hb); clear hb)
        | (go_at_call 17; with_reducible refine (H1.out _ TI.out).mono ?_; rintro e w2 ⟨rfl, hb⟩; have TI := hide (TI.out.then_ hb); have T := hide (T.out.then_ hb); have BB := hide (thenB BB.out hb); clear hb)
        | (go_at_call 24; refine (U1.out _ (T.out.get (A := A) (l := l) (by simp))).mono ?_; rintro e w3 ⟨rfl, hb⟩; have TI := hide (TI.out.then_ hb); have T := hide (T.out.then_ hb); have BB := hide (thenB BB.out hb); clear hb)
        | (go_at_call 19; with_reducible refine (C1.out _ (T.out.get (A := A) (l := l) (by simp))).mono ?_; rintro e w4 ⟨A4, c4, rfl, hl4, hm4, hs4, hb⟩; have TI := hide (TI.out.then_ hb); have T := hide (T.out.then_ hb); have BB := hide (thenB BB.out hb); clear hb; have T := hide (T.out.add hs4); clear hs4))
      go_loopw [13, 14, 15, 16, 17, 44] (fun _ _ _ _ _ i wr => ∃ k : Nat, k ≤ rs.length ∧ i = .int .i64 k ∧ AllV wr [(A4, m), (A, l)] ∧ IS wr B rs ∧ Below w.heap.size w wr) (fun _ _ _ _ _ i _ => rs.length - (intOf i).toNat)
      case atStart => exact ⟨0, Nat.zero_le _, rfl, T.out, TI.out, BB.out⟩
      case round =>
        clear T TI BB
        obtain ⟨k, hk, rfl, ht, hs, hb⟩ := hrel
        have T := hide ht
        have TI := hide hs
        have BB := hide hb
        by_cases hlt : k < rs.length
        · obtain ⟨b, o, rfl, hbl, hc⟩ := hs.at_ hlt
          have c0 := hc k hlt
          have hmem : rs[k] ∈ rs := List.getElem_mem hlt
          have R2 := hide (R1.out rs[k] hmem)
          have Q2 := hide (Q1.out rs[k] hmem)
          obtain ⟨rl, hrl⟩ : ∃ rl, rl = readL l rs[k] := ⟨_, rfl⟩
          rw [← hrl] at R2 Q2
          clear hc ht hs hb hrl hmem
          go_wp2_with (first
            | (go_at_call 26; with_reducible refine (R2.out _ (T.out.get (A := A) (l := l) (by simp))).mono ?_; rintro e w5 ⟨A5, c5, rfl, hl5, hm5, hs5, hb⟩; have L5 := hide (Nat.le_trans hl5 hm5); have TI := hide (TI.out.then_ hb); have T := hide (T.out.then_ hb); have BB := hide (thenB BB.out hb); clear hb; have T := hide (T.out.add hs5); clear hs5)
            | (go_at_call 22; with_reducible refine (Q2.out A4 c4 _ (T.out.get (A := A4) (l := m) (by simp))).mono ?_; rintro e w6 ⟨A6, c6, rfl, hl6, hm6, hs6, hb⟩; have TI := hide (TI.out.then_ hb); have T := hide (T.out.then_ hb); have BB := hide (thenB BB.out hb); clear hb; have T := hide (T.out.add hs6); clear hs6)
            | (go_at_call 21; refine (same_self A5 A6 c5 c6 rl _ L5.out (T.out.get (A := A5) (l := rl) (by simp)) (T.out.get (A := A6) (l := rl) (by simp))).mono ?_; rintro e w7 ⟨rfl, hb⟩; have TI := hide (TI.out.then_ hb); have T := hide (T.out.then_ hb); have BB := hide (thenB BB.out hb); clear hb))
          go_roundw
          case rel => exact ⟨k + 1, by omega, by go_num, (AllV.one (T.out.get (A := A) (l := l) (by simp))).add (T.out.get (A := A4) (l := m) (by simp)), TI.out, BB.out⟩
          case measure => simp [intOf]; omega
        · clear ht hs hb
          go_wp2
          go_ret
          exact ⟨rfl, BB.out⟩
end Go.Proofs.Ytejpfcomgamhjaa
