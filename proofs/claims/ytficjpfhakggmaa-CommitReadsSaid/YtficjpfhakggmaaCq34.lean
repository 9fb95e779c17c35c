/-
  The walk of commit.copies.
-/
import Derived.Test.YtficjpfhakggmaaCn34
namespace Go.Proofs.Ytficjpfhakggmaa
open Go.RowKit
theorem Rd.grown {w w' : World} {A : Option Addr} {cs : List Value} {row : Option Nat} (h : Rd w A cs) (hA : ∀ a, A = some a → some a.block ≠ row) (hg : w.grownBy w' row) : Rd w' A cs := fun hne => by
  obtain ⟨b, o, rfl, hb, hc⟩ := h hne
  exact ⟨b, o, rfl, Nat.lt_of_lt_of_le hb hg.size, fun j u hu => (World.cell?_of_block (hg.block b hb (hA _ rfl))).trans (hc j u hu)⟩
/-- a transaction of one's own: its lists lie apart from a row -/
structure TxO (w : World) (base : Nat) (row : Option Nat) (v : TxV) : Prop where
  tx : TxW w v
  r : ∀ a, v.ra = some a → base ≤ a.block ∧ a.block < w.heap.size ∧ some a.block ≠ row
  s : ∀ a, v.wa = some a → base ≤ a.block ∧ a.block < w.heap.size ∧ some a.block ≠ row
theorem TxO.grown {w w' : World} {base : Nat} {row row' : Option Nat} {v : TxV} (h : TxO w base row v) (hg : w.grownBy w' row) (hr : row' = row ∨ row' = some w.heap.size) : TxO w' base row' v := by
  have key : ∀ b, b < w.heap.size → some b ≠ row → some b ≠ row' := fun b hb hne => by
    rcases hr with rfl | rfl
    · exact hne
    · intro e; injection e with e; omega
  refine ⟨⟨Rd.grown h.tx.r (fun a ha => (h.r a ha).2.2) hg, Rd.grown h.tx.s (fun a ha => (h.s a ha).2.2) hg, h.tx.rl, h.tx.rm, h.tx.wl, h.tx.wm⟩, fun a ha => ?_, fun a ha => ?_⟩
  · exact ⟨(h.r a ha).1, Nat.lt_of_lt_of_le (h.r a ha).2.1 hg.size, key _ (h.r a ha).2.1 (h.r a ha).2.2⟩
  · exact ⟨(h.s a ha).1, Nat.lt_of_lt_of_le (h.s a ha).2.1 hg.size, key _ (h.s a ha).2.1 (h.s a ha).2.2⟩
theorem TxO.then_ {w w' : World} {base : Nat} {row : Option Nat} {v : TxV} (h : TxO w base row v) (hb : Below w.heap.size w w') : TxO w' base row v :=
  ⟨h.tx.then_ hb, fun a ha => ⟨(h.r a ha).1, Nat.lt_of_lt_of_le (h.r a ha).2.1 hb.size, (h.r a ha).2.2⟩, fun a ha => ⟨(h.s a ha).1, Nat.lt_of_lt_of_le (h.s a ha).2.1 hb.size, (h.s a ha).2.2⟩⟩
theorem TxV.len (v : TxV) : v.cells.length = 4 := rfl
theorem txs_snoc {o l : List TxV} {v : TxV} {i : Nat} (hi : i < l.length) (h : txs o = (txs l).take i) (hv : v.t = l[i].t) : txs (o ++ [v]) = (txs l).take (i + 1) := by
  have hl : i < (txs l).length := by simpa [txs] using hi
  rw [List.take_succ_eq_append_getElem hl, ← h]
  simp [txs, hv]
set_option maxHeartbeats 4000000 in
set_option maxRecDepth 100000 in
theorem copies_own (A : Option Addr) (c : Nat) (l : List TxV) (w : World) (hn : Small (txs l)) (h : TS w A l) :
    Calls Try.prog 51 #[.slice A l.length c] w
      fun e w' => ∃ A' c' l', e = .returned (.slice A' l.length c') ∧ Below w.heap.size w w' ∧ l'.length = l.length ∧ l.length ≤ c' ∧ c' ≤ maxLen ∧ txs l' = txs l ∧ TS w' A' l' ∧
        w'.ownsRow w.heap.size 29 4 (.slice A' l.length c') l.length (l'.flatMap TxV.cells) ∧ ∀ v ∈ l', TxO w' w.heap.size (Value.slice A' l.length c').ownBlock v := by
  obtain ⟨i0, hi, hz0, hz1, hz2⟩ := info_parts infoTx
  have hlen : l.length ≤ 2000 := by have := hn.len; simpa [txs] using this
  have hsm : ∀ i (hi : i < l.length), l[i].t.reads.length ≤ 100 ∧ l[i].t.writes.length ≤ 100 := fun i hi => hn.each _ (List.mem_map.2 ⟨l[i], List.getElem_mem _, rfl⟩)
  have HS := hide hsm
  clear hsm
  go_enter Try.func51, Try.ntmps51
  go_wp2_with fail
  go_loopw [3, 8] (fun u3 u8 wr => ∃ (i : Nat) (o : List TxV), i ≤ l.length ∧ u8 = .int .i64 i ∧ wr.ownsRow w.heap.size 29 4 u3 i (o.flatMap TxV.cells) ∧ o.length = i ∧ txs o = (txs l).take i ∧ (∀ v ∈ o, TxO wr w.heap.size u3.ownBlock v) ∧ Below w.heap.size w wr)
    (fun _ u8 _ => l.length - (intOf u8).toNat)
  case atStart => exact ⟨0, [], Nat.zero_le _, rfl, World.ownsRow_nil _ _ _ _, rfl, by simp [txs], fun v hv => (by cases hv), Below.refl _ _⟩
  case round =>
    obtain ⟨i, o, hil, rfl, hown, hol, hto, heach, hbr⟩ := hrel
    have HO := hide hown
    have HT := hide hto
    have HE := hide heach
    clear hown hto heach
    by_cases hlt : i < l.length
    · have hr := h.then_ hbr
      obtain ⟨b, o', rfl, hb', hc⟩ := hr.at_ hlt
      obtain ⟨c0, cw⟩ := hc i hlt
      have X0 := fun W (s : TxW W (l[i]'hlt)) => copied_any (l[i]'hlt) W (HS.out i hlt) s
      have X := hide X0
      have CW := hide cw
      obtain ⟨li, hli⟩ : ∃ li, li = l[i] := ⟨_, rfl⟩
      have HLI := hide hli
      rw [← hli] at c0 X CW
      clear hc hr X0 cw hli
      unfold TxAt at c0
      have p63 : o' + i * 4 + 0 = o' + i * 4 := rfl
      go_upto_region 5 with fail
      have C1 := hide (CW.out.then_ ((Below.refl _ _).alloc (Nat.le_refl _) (.cells #[.int .i64 li.t.id, .int .i64 li.t.ts, .slice li.ra li.t.reads.length li.rc, .slice li.wa li.t.writes.length li.wc] 29)))
      have HB := hide hbr
      clear hbr
      go_wp2_with (first
        | (go_at_call 49; refine (X.out _ C1.out).mono ?_; rintro e w4 ⟨⟨t4, ra4, rc4, wa4, wc4⟩, rfl, hb4, ht4, hw4, hr4, hs4⟩; obtain rfl : t4 = li.t := ht4; unfold TxV.agg; have B4 := hide (thenB ((Below.refl _ _).alloc (Nat.le_refl _) _) hb4); have W4 := hide hw4; have R4 := hide hr4; have S4 := hide hs4; clear hb4 hw4 hr4 hs4)
        | (at_builtin; refine wpList_append_rd _ rfl _ _ 23 rfl w.heap.size 29 i0 _ 4 64 Try.underlying23 hi hz0 hz1 hz2 rfl (by decide) _ i (o.flatMap TxV.cells) rfl (own_below (own_below HO.out B4.out) ((Below.refl _ _).alloc (Nat.le_refl _) _)) (some ⟨w4.heap.size, 0, none⟩) 1 1 (TxV.cells ⟨li.t, ra4, rc4, wa4, wc4⟩) rfl rfl (Rd.new_row _ _ _) (by simpa using tx_one [⟨li.t, ra4, rc4, wa4, wc4⟩]) ?_ ?_ ?_ ?_))
      · simp only [maxLen]; omega
      · omega
      · have := HB.out.size; have := B4.out.size; simp; omega
      intro v5 w5 hown5 hg5 hr5
      have H5 := hide hown5
      have G5 := hide hg5
      have Q5 := hide hr5
      clear hown5 hg5 hr5
      go_wp2
      go_roundw
      case rel =>
        have hsz : w4.heap.size ≤ (w4.alloc (.cells #[.int .i64 li.t.id, .int .i64 li.t.ts, .slice ra4 li.t.reads.length rc4, .slice wa4 li.t.writes.length wc4] 29)).heap.size := by simp
        have hal : Below w4.heap.size w4 (w4.alloc (.cells #[.int .i64 li.t.id, .int .i64 li.t.ts, .slice ra4 li.t.reads.length rc4, .slice wa4 li.t.writes.length wc4] 29)) := (Below.refl _ _).alloc (Nat.le_refl _) _
        refine ⟨i + 1, o ++ [⟨li.t, ra4, rc4, wa4, wc4⟩], by omega, rfl, by simpa using H5.out, by simp [hol], txs_snoc hlt HT.out (by rw [← HLI.out]), ?_, ?_⟩
        · intro v hv
          rcases List.mem_append.1 hv with hv | hv
          · exact (((HE.out v hv).then_ B4.out).then_ hal).grown G5.out (by rw [World.size_alloc]; exact Q5.out)
          · obtain rfl : v = ⟨li.t, ra4, rc4, wa4, wc4⟩ := by simpa using hv
            have hbr := HB.out.size
            have hlt5 : ∀ k, u3.ownBlock = some k → k < wr.heap.size := fun k hk => (HO.out.lt k hk).2
            have hne : ∀ b, wr.heap.size < b + 1 → some b ≠ u3.ownBlock := fun b hb e => by have := hlt5 b e.symm; omega
            have h0 : TxO w4 w.heap.size u3.ownBlock ⟨li.t, ra4, rc4, wa4, wc4⟩ := ⟨W4.out, fun a ha => ⟨by have := (R4.out a ha).1; simp at this; omega, (R4.out a ha).2, hne _ (by have := (R4.out a ha).1; simp at this; omega)⟩, fun a ha => ⟨by have := (S4.out a ha).1; simp at this; omega, (S4.out a ha).2, hne _ (by have := (S4.out a ha).1; simp at this; omega)⟩⟩
            exact (h0.then_ hal).grown G5.out (by rw [World.size_alloc]; exact Q5.out)
        · exact ((thenB HB.out B4.out).alloc (by have := HB.out.size; have := B4.out.size; omega) _).grown G5.out (by have := HB.out.size; have := B4.out.size; simp; omega) (fun k hk => (HO.out.lt k hk).1)
      case measure => simp [intOf]; omega
    · obtain rfl : i = l.length := by omega
      obtain ⟨A6, c6, rfl, h6, m6, r6⟩ := own_form HO.out
      have R6 := hide r6
      have HB := hide hbr
      clear hbr r6
      go_wp2
      try rw [Exit.noGoto_ret]
      go_ret
      exact ⟨A6, c6, o, rfl, HB.out, hol, h6, m6, by rw [HT.out, List.take_of_length_le (by simp [txs])], ⟨R6.out, fun v hv => (HE.out v hv).tx⟩, HO.out, HE.out⟩
theorem copies_any (A : Option Addr) (c : Nat) (l : List TxV) (w : World) (hn : Small (txs l)) (h : TS w A l) :
    Calls Try.prog 51 #[.slice A l.length c] w
      fun e w' => ∃ A' c' l', e = .returned (.slice A' l.length c') ∧ Below w.heap.size w w' ∧ l'.length = l.length ∧ l.length ≤ c' ∧ c' ≤ maxLen ∧ txs l' = txs l ∧ TS w' A' l' := by
  refine (copies_own A c l w hn h).mono ?_
  rintro e w' ⟨A', c', l', h1, h2, h3, h4, h5, h6, h7, _⟩
  exact ⟨A', c', l', h1, h2, h3, h4, h5, h6, h7⟩
end Go.Proofs.Ytficjpfhakggmaa
