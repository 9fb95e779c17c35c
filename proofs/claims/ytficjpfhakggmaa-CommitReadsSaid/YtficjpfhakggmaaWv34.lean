/-
  The walk of the versions of a transaction.
-/
import Derived.Test.YtficjpfhakggmaaCq34
import Derived.Test.YtficjpfhakggmaaPut
namespace Go.Proofs.Ytficjpfhakggmaa
open Go.RowKit
def verT (t : Tx) : List Ver := t.writes.map fun x => ⟨x.key, t.ts, x.value, x.gone⟩
theorem verT_len (t : Tx) : (verT t).length = t.writes.length := by simp [verT]
theorem verT_next (t : Tx) {i : Nat} (hi : i < t.writes.length) : (verT t).take (i + 1) = (verT t).take i ++ [⟨t.writes[i].key, t.ts, t.writes[i].value, t.writes[i].gone⟩] := by
  rw [List.take_succ_eq_append_getElem (by rw [verT_len]; exact hi)]
  simp [verT]
theorem OwnV.snoc' {w : World} {base n : Nat} {v : Value} {l : List Ver} {x : Ver} (h : w.ownsRow base 44 4 v (n + 1) (l.flatMap Ver.cells ++ x.cells)) (hn : n = l.length) : OwnV w base v (l ++ [x]) := OwnV.snoc h hn rfl
set_option maxHeartbeats 4000000 in
set_option maxRecDepth 100000 in
theorem vers_any (v : TxV) (w : World) (hn : v.t.writes.length ≤ 100) (h : TxW w v) :
    Calls Try.prog 59 #[.agg #[.int .i64 v.t.id, .int .i64 v.t.ts, .slice v.ra v.t.reads.length v.rc, .slice v.wa v.t.writes.length v.wc]] w
      fun e w' => ∃ A c, e = .returned (.slice A (verT v.t).length c) ∧ Below w.heap.size w w' ∧ (verT v.t).length ≤ c ∧ c ≤ maxLen ∧ VS w' A (verT v.t) := by
  obtain ⟨⟨id, ts, rd, wt⟩, ra, rc, wa, wc⟩ := v
  obtain ⟨i0, hi, hz0, hz1, hz2⟩ := info_parts infoV
  have HW := hide h.s
  dsimp only at HW hn ⊢
  clear h
  obtain ⟨T, hT⟩ : ∃ T : Tx, T = ⟨id, ts, rd, wt⟩ := ⟨_, rfl⟩
  have TW := hide (show T.writes = wt by rw [hT])
  have TT := hide (show T.ts = ts by rw [hT])
  rw [← hT]
  clear hT
  have hl := verT_len T
  rw [TW.out] at hl
  have HL := hide hl
  clear hl
  go_enter Try.func59, Try.ntmps59
  go_wp2_with fail
  obtain ⟨W, hW⟩ : ∃ W, w.alloc (.cells #[.int .i64 id, .int .i64 ts, .slice ra rd.length rc, .slice wa wt.length wc] 79) = W := ⟨_, rfl⟩
  have hb0 : Below w.heap.size w W := by rw [← hW]; exact (Below.refl _ _).alloc (Nat.le_refl _) _
  have hs0 : W.heap.size = w.heap.size + 1 := by rw [← hW]; simp
  have p0 : W.cell? ⟨w.heap.size, 1, none⟩ = some (.int .i64 ts) := by rw [← hW, (Blk.new _ _ _).cell]; rfl
  try rw [hW]
  clear hW
  have P0 := hide p0
  have B0 := hide hb0
  have S0 := hide hs0
  clear p0 hb0 hs0
  go_loopw [3, 10] (fun u3 u10 wr => ∃ (i : Nat), i ≤ wt.length ∧ u10 = .int .i64 i ∧ OwnV wr W.heap.size u3 ((verT T).take i) ∧ Below W.heap.size W wr)
    (fun _ u10 _ => wt.length - (intOf u10).toNat)
  case atStart => exact ⟨0, Nat.zero_le _, rfl, by rw [List.take_zero]; exact World.ownsRow_nil _ _ _ _, Below.refl _ _⟩
  case round =>
    obtain ⟨i, hil, rfl, hown, hbr⟩ := hrel
    have HO := hide hown
    have HB := hide hbr
    clear hown hbr
    by_cases hlt : i < wt.length
    · obtain ⟨b, o', rfl, hb', hc⟩ := WrS.at_ ((HW.out.then_ B0.out).then_ HB.out) hlt
      have c0 := hc i hlt
      have hv := verT_next T (i := i) (by rw [TW.out]; exact hlt)
      have e0 : T.writes[i]'(by rw [TW.out]; exact hlt) = wt[i] := by simp only [TW.out]
      rw [e0, TT.out] at hv
      obtain ⟨x, hx⟩ : ∃ x, x = wt[i] := ⟨_, rfl⟩
      rw [← hx] at c0 hv
      have HV := hide hv
      have k0 : wr.cell? ⟨w.heap.size, 1, none⟩ = some (.int .i64 ts) := (HB.out.cell (p := ⟨w.heap.size, 1, none⟩) (by show w.heap.size < W.heap.size; rw [S0.out]; omega)).trans P0.out
      have hlen : ((verT T).take i).length = i := by rw [List.length_take, HL.out]; omega
      have HN := hide hlen
      clear hc hv e0 hx hlen
      unfold WrAt at c0
      have k1 : (wr.alloc (.cells #[.int .i64 x.key, .int .i64 x.value, .bool x.gone] 60)).cell? ⟨w.heap.size, 1, none⟩ = some (.int .i64 ts) := (((Below.refl wr.heap.size wr).alloc (Nat.le_refl _) _).cell (p := ⟨w.heap.size, 1, none⟩) (by show w.heap.size < wr.heap.size; have := S0.out; have := HB.out.size; omega)).trans k0
      have hk : w.heap.size < wr.heap.size := by have := S0.out; have := HB.out.size; omega
      go_wp2_with (at_builtin; refine wpList_append_rd _ rfl _ _ 22 rfl W.heap.size 44 i0 _ 4 32 Try.underlying22 hi hz0 hz1 hz2 rfl (by decide) _ _ _ rfl ((HO.out.below ((Below.refl _ _).alloc (Nat.le_refl _) _)).below ((Below.refl _ _).alloc (Nat.le_refl _) _)) (some ⟨wr.heap.size + 1, 0, none⟩) 1 1 (Ver.cells ⟨x.key, ts, x.value, x.gone⟩) rfl rfl (by rw [← World.size_alloc wr (.cells #[.int .i64 x.key, .int .i64 x.value, .bool x.gone] 60)]; exact Rd.new_row _ _ _) (by simpa using ver_one [⟨x.key, ts, x.value, x.gone⟩]) ?_ ?_ ?_ ?_)
      · have := HN.out; simp only [maxLen]; omega
      · have := HN.out; omega
      · have := HB.out.size; simp; omega
      intro v5 w5 hown5 hg5 _
      have H5 := hide hown5
      have G5 := hide hg5
      clear hown5 hg5
      go_wp2
      go_roundw
      case rel =>
        refine ⟨i + 1, by omega, rfl, by rw [HV.out]; exact OwnV.snoc' H5.out (by rw [List.length_take]), ?_⟩
        exact ((HB.out.alloc HB.out.size _).alloc (by have := HB.out.size; simp; omega) _).grown G5.out (by have := HB.out.size; simp; omega) (fun k hk => (HO.out.lt k hk).1)
      case measure => simp [intOf]; omega
    · obtain rfl : i = wt.length := by omega
      rw [List.take_of_length_le (by rw [HL.out]; exact Nat.le_refl _)] at HO
      obtain ⟨A6, c6, rfl, h6, m6, r6⟩ := HO.out.form
      have R6 := hide r6
      clear r6
      go_wp2
      try rw [Exit.noGoto_ret]
      go_ret
      exact ⟨A6, c6, rfl, B0.out.trans (HB.out.mono (by rw [S0.out]; omega)), h6, m6, R6.out⟩
end Go.Proofs.Ytficjpfhakggmaa
