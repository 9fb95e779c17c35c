/-
  The walks of commit.past, with sort.Search and its closure.
-/
import Derived.Test.YtficjpfhakggmaaIv34
namespace Go.Proofs.Ytficjpfhakggmaa
open Go.RowKit
set_option maxHeartbeats 2000000 in
theorem pastF_any (g1 g2 : Nat) (S : Value) (last at_ : Int) (OA : Option Addr) (oc : Nat) (op : List TxV) (k : Nat) (w : World) (hk : k < op.length) (h1 : LdAt w g1 last S (.slice OA op.length oc)) (h2 : w.cell? ⟨g2, 0, none⟩ = some (.int .i64 at_)) (h : TS w OA op) :
    Calls Try.prog 91 #[.int .i64 k, .pointer (some ⟨g1, 0, none⟩), .pointer (some ⟨g2, 0, none⟩)] w fun e w' => e = .returned (.bool (decide (at_ ≤ op[k].t.ts))) ∧ Below w.heap.size w w' := by
  obtain ⟨b, o, rfl, hbl, hc⟩ := h.at_ hk
  have c0 := ((hc k hk).1).fut hbl
  obtain ⟨v, hv⟩ : ∃ v, v = op[k] := ⟨_, rfl⟩
  rw [← hv] at c0 ⊢
  unfold TxAt at c0
  have l0 := fun x : Fut w.heap.size w => h1.below x.h (cell_lt h1.1)
  unfold LdAt at l0
  have a0 := fun x : Fut w.heap.size w => (x.cell g2 0 (cell_lt h2)).trans h2
  have p1 : (k : Int) < (op.length : Int) := by omega
  clear hc h1 h2 h hv
  go_enter Try.func91, Try.ntmps91
  go_wp2
  refine wp_region_fut w.heap.size (by kernel_rfl) (by kernel_rfl) ?_
  repeat (go_big_quiet_step ((first | fail)))
  refine wpQuiet_nil ?_
  intro w4 hq'; have hb4 := Fut.of hq'; clear hq'
  go_wp2
  go_ret
  exact ⟨rfl, hb4⟩
set_option maxHeartbeats 4000000 in
theorem search_any (g1 g2 : Nat) (S : Value) (last at_ : Int) (OA : Option Addr) (oc : Nat) (op : List TxV) (N : Nat) (w : World) (hn : op.length ≤ 2000) (h1 : LdAt w g1 last S (.slice OA op.length oc)) (h2 : w.cell? ⟨g2, 0, none⟩ = some (.int .i64 at_)) (h : TS w OA op)
    (hN : N ≤ op.length) (hlo : ∀ i (hi : i < op.length), i < N → op[i].t.ts < at_) (hhi : ∀ i (hi : i < op.length), N ≤ i → at_ ≤ op[i].t.ts) :
    Calls Try.prog 90 #[.int .i64 op.length, .func (.func 91) #[] #[.pointer (some ⟨g1, 0, none⟩), .pointer (some ⟨g2, 0, none⟩)]] w fun e w' => e = .returned (.int .i64 N) ∧ Below w.heap.size w w' := by
  have PF := hide fun (k : Nat) (hk : k < op.length) W (hb : Below w.heap.size w W) => pastF_any g1 g2 S last at_ OA oc op k W hk (h1.below hb (cell_lt h1.1)) ((hb.cell (p := ⟨g2, 0, none⟩) (cell_lt h2)).trans h2) (h.then_ hb)
  have HL := hide hlo
  have HH := hide hhi
  clear hlo hhi h1 h2 h
  go_enter Try.func90, Try.ntmps90
  go_wp2_with fail
  go_loopw [5, 6, 7] (fun i j _ wr => ∃ a b : Nat, a ≤ N ∧ N ≤ b ∧ b ≤ op.length ∧ i = .int .i64 a ∧ j = .int .i64 b ∧ Below w.heap.size w wr) (fun i j _ _ => (intOf j - intOf i).toNat)
  case atStart => exact ⟨0, op.length, Nat.zero_le _, hN, Nat.le_refl _, rfl, rfl, Below.refl _ _⟩
  case round =>
    obtain ⟨a, b, ha, hb, hbl, rfl, rfl, hbr⟩ := hrel
    have HB := hide hbr
    by_cases hab : a < b
    · have hq : (a + b) / 2 < op.length := by omega
      have q1 : (0 : Int) ≤ ((a : Int) + b) / 2 := by omega
      have q2 : ((a : Int) + b) / 2 ≤ 2000 := by omega
      have eq : (((a + b) / 2 : Nat) : Int) = ((a : Int) + b) / 2 := by omega
      have PK := hide (PF.out ((a + b) / 2) hq wr hbr)
      rw [eq] at PK
      clear hbr eq
      by_cases hcm : (a + b) / 2 < N
      · have t1 : decide (at_ ≤ op[(a + b) / 2].t.ts) = false := decide_eq_false (by have := HL.out _ hq hcm; omega)
        rw [t1] at PK
        clear t1
        go_wp2_with (go_at_call 91; refine PK.out.mono ?_; rintro e w1 ⟨rfl, h1⟩; have H1 := hide (thenB HB.out h1); clear h1)
        go_roundw
        case rel => exact ⟨(a + b) / 2 + 1, b, by omega, hb, hbl, by go_num, rfl, H1.out⟩
        case measure => simp [intOf]; omega
      · have t1 : decide (at_ ≤ op[(a + b) / 2].t.ts) = true := decide_eq_true (HH.out _ hq (by omega))
        rw [t1] at PK
        clear t1
        go_wp2_with (go_at_call 91; refine PK.out.mono ?_; rintro e w1 ⟨rfl, h1⟩; have H1 := hide (thenB HB.out h1); clear h1)
        go_roundw
        case rel => exact ⟨a, (a + b) / 2, ha, by omega, by omega, rfl, by go_num, H1.out⟩
        case measure => simp [intOf]; omega
    · obtain rfl : a = N := by omega
      clear hbr
      go_wp2
      go_ret
      exact ⟨rfl, HB.out⟩
set_option maxHeartbeats 2000000 in
theorem past_any (L : LdV) (at_ : Int) (N : Nat) (w : World) (hn : L.op.length ≤ 2000) (h : LdW w L)
    (hN : N ≤ L.op.length) (hlo : ∀ i (hi : i < L.op.length), i < N → L.op[i].t.ts < at_) (hhi : ∀ i (hi : i < L.op.length), N ≤ i → at_ ≤ L.op[i].t.ts) :
    Calls Try.prog 58 #[.agg #[.int .i64 L.last, .slice L.sa L.st.length L.sc, .slice L.oa L.op.length L.oc], .int .i64 at_] w fun e w' => e = .returned (.int .i64 N) ∧ Below w.heap.size w w' := by
  have e1 : (w.alloc (.cells #[.int .i64 L.last, .slice L.sa L.st.length L.sc, .slice L.oa L.op.length L.oc] 25)).heap.size = w.heap.size + 1 := by simp
  have S0 := search_any w.heap.size (w.heap.size + 1) (.slice L.sa L.st.length L.sc) L.last at_ L.oa L.oc L.op N ((w.alloc (.cells #[.int .i64 L.last, .slice L.sa L.st.length L.sc, .slice L.oa L.op.length L.oc] 25)).alloc (.cells #[.int .i64 at_] 3)) hn (LdAt.new.below ((Below.refl _ _).alloc (Nat.le_refl _) _) (by rw [e1]; omega)) (cell_at _ _ _ _ 0 e1.symm) (h.o.then_ (((Below.refl _ _).alloc (Nat.le_refl _) _).alloc (by simp) _)) hN hlo hhi
  have S1 := hide S0
  clear S0 hlo hhi h e1
  go_enter Try.func58, Try.ntmps58
  go_wp2_with (go_at_call 90; refine S1.out.mono ?_; rintro e w1 ⟨rfl, h1⟩)
  go_ret
  exact ⟨rfl, (((Below.refl _ _).alloc (Nat.le_refl _) _).alloc (by simp) _).trans (h1.mono (by simp; omega))⟩
/-- how many transactions have a timestamp below some time -/
def pastN (l : List Tx) (at_ : Int) : Nat := (l.takeWhile fun t => decide (t.ts < at_)).length
theorem chain_rise {m : Int} : ∀ {l : List Tx}, chainB m l = true → ∀ (i j : Nat) (hj : j < l.length) (_ : i < j), (l[i]'(by omega)).ts < l[j].ts
  | [], _, i, j, hj, _ => absurd hj (Nat.not_lt_zero _)
  | t :: l, h, i, j, hj, hij => by
    unfold chainB at h
    rw [Bool.and_eq_true, Bool.and_eq_true, decide_eq_true_eq] at h
    have first : ∀ (l : List Tx) (m : Int), chainB m l = true → ∀ (j : Nat) (hj : j < l.length), m < l[j].ts := by
      intro l
      induction l with
      | nil => intro m _ j hj; exact absurd hj (Nat.not_lt_zero _)
      | cons x l ih =>
        intro m hc j hj
        unfold chainB at hc
        rw [Bool.and_eq_true, Bool.and_eq_true, decide_eq_true_eq] at hc
        cases j with
        | zero => exact hc.1.2
        | succ j => have := ih x.ts hc.2 j (by simpa using hj); simp only [List.getElem_cons_succ]; omega
    cases j with
    | zero => omega
    | succ j =>
      cases i with
      | zero => exact first l t.ts h.2 j (by simpa using hj)
      | succ i => exact chain_rise (l := l) h.2 i j (by simpa using hj) (by omega)
theorem pastN_le (l : List Tx) (a : Int) : pastN l a ≤ l.length := (List.takeWhile_sublist _).length_le
theorem pastN_lo {l : List Tx} {a : Int} {i : Nat} (hi : i < l.length) (h : i < pastN l a) : l[i].ts < a := of_decide_eq_true (takeWhile_at (fun t : Tx => decide (t.ts < a)) l i hi h)
theorem pastN_hi {m : Int} {l : List Tx} {a : Int} (hc : chainB m l = true) {i : Nat} (hi : i < l.length) (h : pastN l a ≤ i) : a ≤ l[i].ts := by
  have hs : ∀ hlt : pastN l a < l.length, a ≤ l[pastN l a].ts := fun hlt => by
    have := of_decide_eq_false (takeWhile_stop (fun t : Tx => decide (t.ts < a)) l hlt)
    exact Int.not_lt.1 this
  rcases Nat.eq_or_lt_of_le h with he | hlt
  · subst he; exact hs hi
  · have h1 := hs (by omega)
    have h2 := chain_rise hc _ i hi hlt
    omega
theorem ok_chain {L : LdV} (h : L.ok = true) : chainB (maxTs L.st) (txs L.op) = true ∧ L.op.length ≤ 2000 := by
  unfold LdV.ok leadB at h
  simp only [Bool.and_eq_true, decide_eq_true_eq] at h
  exact ⟨h.1.2, by have := h.1.1.1.2; rw [txs_len] at this; exact this⟩
theorem pastL_any (L : LdV) (at_ : Int) (w : World) (hok : L.ok = true) (h : LdW w L) :
    Calls Try.prog 58 #[.agg #[.int .i64 L.last, .slice L.sa L.st.length L.sc, .slice L.oa L.op.length L.oc], .int .i64 at_] w fun e w' => e = .returned (.int .i64 (pastN (txs L.op) at_)) ∧ Below w.heap.size w w' := by
  obtain ⟨hc, hl⟩ := ok_chain hok
  have hle := pastN_le (txs L.op) at_
  rw [txs_len] at hle
  refine past_any L at_ _ w hl h hle (fun i hi hN => ?_) (fun i hi hN => ?_)
  · have := pastN_lo (l := txs L.op) (a := at_) (i := i) (by rw [txs_len]; exact hi) hN
    rw [txs_get hi] at this
    exact this
  · have := pastN_hi hc (a := at_) (i := i) (by rw [txs_len]; exact hi) hN
    rw [txs_get hi] at this
    exact this
end Go.Proofs.Ytficjpfhakggmaa
