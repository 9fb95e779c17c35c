/-
  The walk of the reference's With.
-/
import Derived.Test.YtficjpfhakggmaaSh34
import Derived.Test.YtficjpfhakggmaaRef33d
namespace Go.Proofs.Ytficjpfhakggmaa
open Go.RowKit
theorem verT_at (t : Tx) {i : Nat} (hi : i < (verT t).length) (hi2 : i < t.writes.length) : (verT t)[i] = ⟨t.writes[i].key, t.ts, t.writes[i].value, t.writes[i].gone⟩ := by simp [verT]
set_option maxHeartbeats 4000000 in
set_option maxRecDepth 100000 in
theorem rWith_any (A : Option Addr) (c : Nat) (f : Nat → List Ver) (v : TxV) (w : World) (hn : v.t.writes.length ≤ 100) (hc : (f 0).length ≤ c) (hm : c ≤ maxLen) (hS : VS w A (f 0)) (h : TxW w v)
    (hput : ∀ j (hj : j < (verT v.t).length), putS (f j) (verT v.t)[j] = (f (j + 1), 0)) (hlen : ∀ j, (f j).length ≤ 4000) :
    Calls Try.prog 61 #[.slice A (f 0).length c, .agg #[.int .i64 v.t.id, .int .i64 v.t.ts, .slice v.ra v.t.reads.length v.rc, .slice v.wa v.t.writes.length v.wc]] w
      fun e w' => ∃ A' c', e = .returned (.slice A' (f v.t.writes.length).length c') ∧ Below w.heap.size w w' ∧ (f v.t.writes.length).length ≤ c' ∧ c' ≤ maxLen ∧ VS w' A' (f v.t.writes.length) := by
  obtain ⟨⟨id, ts, rd, wt⟩, ra, rc, wa, wc⟩ := v
  have HW := hide h.s
  have HP := hide fun (j : Nat) (hj : j < wt.length) => (verT_at ⟨id, ts, rd, wt⟩ (by rw [verT_len]; exact hj) hj ▸ hput j (by rw [verT_len]; exact hj) : putS (f j) ⟨wt[j].key, ts, wt[j].value, wt[j].gone⟩ = (f (j + 1), 0))
  have HS := hide hS
  have HN := hide hlen
  dsimp only at HW hn ⊢
  clear h hput hS hlen
  go_enter Try.func61, Try.ntmps61
  go_wp2_with fail
  obtain ⟨W, hW⟩ : ∃ W, w.alloc (.cells #[.int .i64 id, .int .i64 ts, .slice ra rd.length rc, .slice wa wt.length wc] 29) = W := ⟨_, rfl⟩
  have hb0 : Below w.heap.size w W := by rw [← hW]; exact (Below.refl _ _).alloc (Nat.le_refl _) _
  have hs0 : W.heap.size = w.heap.size + 1 := by rw [← hW]; simp
  have p0 : W.cell? ⟨w.heap.size, 1, none⟩ = some (.int .i64 ts) := by rw [← hW, (Blk.new _ _ _).cell]; rfl
  have p3 : W.cell? ⟨w.heap.size, 3, none⟩ = some (.slice wa wt.length wc) := by rw [← hW, (Blk.new _ _ _).cell]; rfl
  try rw [hW]
  clear hW
  have P0 := hide p0
  have P3 := hide p3
  have B0 := hide hb0
  have S0 := hide hs0
  clear p0 p3 hb0 hs0
  go_loopw [0, 5] (fun u0 u5 wr => ∃ (i : Nat) (A8 : Option Addr) (c8 : Nat), i ≤ wt.length ∧ u5 = .int .i64 i ∧ u0 = .slice A8 (f i).length c8 ∧ (f i).length ≤ c8 ∧ c8 ≤ maxLen ∧ VS wr A8 (f i) ∧ Below W.heap.size W wr)
    (fun _ u5 _ => wt.length - (intOf u5).toNat)
  case atStart => exact ⟨0, A, c, Nat.zero_le _, rfl, rfl, hc, hm, HS.out.then_ B0.out, Below.refl _ _⟩
  case round =>
    obtain ⟨i, A8, c8, hil, rfl, rfl, h8, m8, s8, hbr⟩ := hrel
    have S8 := hide s8
    have HB := hide hbr
    clear s8 hbr
    have k0 : wr.cell? ⟨w.heap.size, 1, none⟩ = some (.int .i64 ts) := (HB.out.cell (p := ⟨w.heap.size, 1, none⟩) (by show w.heap.size < W.heap.size; rw [S0.out]; omega)).trans P0.out
    have k3 : wr.cell? ⟨w.heap.size, 3, none⟩ = some (.slice wa wt.length wc) := (HB.out.cell (p := ⟨w.heap.size, 3, none⟩) (by show w.heap.size < W.heap.size; rw [S0.out]; omega)).trans P3.out
    by_cases hlt : i < wt.length
    · obtain ⟨b, o', rfl, hb', hcc⟩ := WrS.at_ ((HW.out.then_ B0.out).then_ HB.out) hlt
      have c0 := hcc i hlt
      have hp := HP.out i hlt
      obtain ⟨x, hx⟩ : ∃ x, x = wt[i] := ⟨_, rfl⟩
      rw [← hx] at c0 hp
      have hl0 := HN.out i
      obtain ⟨s1, hs1⟩ : ∃ s, s = f (i + 1) := ⟨_, rfl⟩
      obtain ⟨s0, hs0⟩ : ∃ s, s = f i := ⟨_, rfl⟩
      rw [← hs1, ← hs0, putS_eq] at hp
      rw [← hs0] at S8 hl0 h8 ⊢
      have PJ0 := fun W (s : VS W A8 s0) => rPut_any A8 c8 s0 ⟨x.key, ts, x.value, x.gone⟩ W (by omega) h8 m8 s
      rw [hp] at PJ0
      have PJ := hide PJ0
      have H1 := hide hs1
      clear hcc hp hx hs1 hs0 PJ0
      unfold WrAt at c0
      have k1 : (wr.alloc (.cells #[.int .i64 x.key, .int .i64 x.value, .bool x.gone] 60)).cell? ⟨w.heap.size, 1, none⟩ = some (.int .i64 ts) := (((Below.refl wr.heap.size wr).alloc (Nat.le_refl _) _).cell (p := ⟨w.heap.size, 1, none⟩) (by show w.heap.size < wr.heap.size; have := S0.out; have := HB.out.size; omega)).trans k0
      have hk : w.heap.size < wr.heap.size := by have := S0.out; have := HB.out.size; omega
      have BX := hide (show Below wr.heap.size wr (wr.alloc (.cells #[.int .i64 x.key, .int .i64 x.value, .bool x.gone] 60)) from (Below.refl _ _).alloc (Nat.le_refl _) _)
      go_wp2_with (go_at_call 94; refine (PJ.out _ (S8.out.then_ BX.out)).mono ?_; rintro e w7 ⟨A7, c7, rfl, h7, m7, s7, hb7⟩; dsimp only at h7 s7 ⊢; have B7 := hide (thenB BX.out hb7); have S7 := hide s7; clear hb7 s7)
      go_roundw
      case rel => exact ⟨i + 1, A7, c7, by omega, rfl, by rw [← H1.out], by rw [← H1.out]; exact h7, m7, by rw [← H1.out]; exact S7.out, thenB HB.out B7.out⟩
      case measure => simp [intOf]; omega
    · obtain rfl : i = wt.length := by omega
      go_wp2
      try rw [Exit.noGoto_ret]
      go_ret
      exact ⟨A8, c8, rfl, B0.out.trans (HB.out.mono (by rw [S0.out]; omega)), h8, m8, S8.out⟩
end Go.Proofs.Ytficjpfhakggmaa

namespace Go.Proofs.Ytficjpfhakggmaa
open Go.RowKit
def nwTx (k : Int) (a : Int) (t : Tx) : Int := t.writes.foldl (fun a x => if x.key = k then max a t.ts else a) a
def newestLS (L : LD) (k : Int) : Int := L.op.foldl (nwTx k) (newestRS L.st k).1
set_option maxHeartbeats 4000000 in
set_option maxRecDepth 100000 in
theorem rNewL_any (L : LdV) (key : Int) (w : World) (hs : LdS L) (h : LdW w L) :
    Calls Try.prog 52 #[.agg #[.int .i64 L.last, .slice L.sa L.st.length L.sc, .slice L.oa L.op.length L.oc], .int .i64 key] w
      fun e w' => e = .returned (.int .i64 (newestLS L.d key)) ∧ Below w.heap.size w w' := by
  have N1 := hide fun W (s : VS W L.sa L.st) => rNewest_any L.sa L.sc L.st key W (by have := hs.st; omega) s
  have HL := hide h
  have HS := hide hs
  have hlo : L.op.length ≤ 2000 := by have := hs.small.len; rw [txs_len] at this; exact this
  obtain ⟨⟨n0, ne⟩, hn0⟩ : ∃ x, x = newestRS L.st key := ⟨_, rfl⟩
  rw [← hn0] at N1
  have HN := hide hn0
  clear h hs hn0
  have LA := hide fun W (hb : Below (w.alloc (.cells #[.int .i64 L.last, .slice L.sa L.st.length L.sc, .slice L.oa L.op.length L.oc] 25)).heap.size (w.alloc (.cells #[.int .i64 L.last, .slice L.sa L.st.length L.sc, .slice L.oa L.op.length L.oc] 25)) W) => (show LdAt W w.heap.size L.last (.slice L.sa L.st.length L.sc) (.slice L.oa L.op.length L.oc) from LdAt.new.below hb (by simp))
  go_enter Try.func52, Try.ntmps52
  go_wp2_with (go_at_call 32; refine (N1.out _ (HL.out.s.then_ ((Below.refl _ _).alloc (Nat.le_refl _) _))).mono ?_; rintro e w1 ⟨rfl, hb⟩; have l1 := LA.out _ hb; have BB := hide (thenB ((Below.refl _ _).alloc (Nat.le_refl _) _) hb); clear hb)
  obtain ⟨k10, k11, k12⟩ := l1
  have TO := hide (HL.out.o.then_ BB.out)
  have K2 := hide k12
  clear k10 k11 k12
  go_loopw [5, 7] (fun u5 u7 wr => ∃ (i : Nat), i ≤ L.op.length ∧ u7 = .int .i64 i ∧ u5 = .int .i64 (((txs L.op).take i).foldl (nwTx key) n0) ∧ wr = w1)
    (fun _ u7 _ => L.op.length - (intOf u7).toNat)
  case atStart => exact ⟨0, Nat.zero_le _, rfl, rfl, rfl⟩
  case round =>
    obtain ⟨i, hil, rfl, rfl, rfl⟩ := hrel
    have k2 := K2.out
    by_cases hlt : i < L.op.length
    · obtain ⟨b, o', hoa, hb', hc⟩ := TO.out.at_ hlt
      obtain ⟨c0, cw⟩ := hc i hlt
      have hsm := (HS.out.small.each _ (List.mem_map.2 ⟨L.op[i], List.getElem_mem _, rfl⟩)).2
      have hi2 : i < (txs L.op).length := by rw [txs_len]; exact hlt
      have hstep : ((txs L.op).take (i + 1)).foldl (nwTx key) n0 = nwTx key (((txs L.op).take i).foldl (nwTx key) n0) L.op[i].t := by
        rw [List.take_succ_eq_append_getElem hi2, List.foldl_append, txs_get hlt]; rfl
      obtain ⟨m, hm⟩ : ∃ m, m = ((txs L.op).take i).foldl (nwTx key) n0 := ⟨_, rfl⟩
      rw [← hm] at hstep ⊢
      obtain ⟨li, hli⟩ : ∃ li, li = L.op[i] := ⟨_, rfl⟩
      rw [← hli] at c0 cw hsm hstep
      have ST := hide hstep
      have CW := hide cw.s
      clear hc cw hli hstep hm
      rw [hoa] at k2 ⊢
      unfold TxAt at c0
      go_wp2_with fail
      go_loopw [5, 8] (fun u5 u8 wj => ∃ (j : Nat), j ≤ li.t.writes.length ∧ u8 = .int .i64 j ∧ u5 = .int .i64 ((li.t.writes.take j).foldl (fun a x => if x.key = key then max a li.t.ts else a) m) ∧ wj = wr)
        (fun _ u8 _ => li.t.writes.length - (intOf u8).toNat)
      case atStart => exact ⟨0, Nat.zero_le _, rfl, rfl, rfl⟩
      case round =>
        obtain ⟨j, hjl, rfl, rfl, rfl⟩ := hrel
        obtain ⟨a, ha⟩ : ∃ a, a = (li.t.writes.take j).foldl (fun a x => if x.key = key then max a li.t.ts else a) m := ⟨_, rfl⟩
        rw [← ha]
        have HA := hide ha
        clear ha
        by_cases hltj : j < li.t.writes.length
        · obtain ⟨b2, o2, hwa, hb2, hc2⟩ := WrS.at_ CW.out hltj
          have d0 := hc2 j hltj
          have hst2 : (li.t.writes.take (j + 1)).foldl (fun a x => if x.key = key then max a li.t.ts else a) m = (if li.t.writes[j].key = key then max a li.t.ts else a) := by
            rw [List.take_succ_eq_append_getElem hltj, List.foldl_append, ← HA.out]; rfl
          obtain ⟨x, hx⟩ : ∃ x, x = li.t.writes[j] := ⟨_, rfl⟩
          rw [← hx] at d0 hst2
          have S2 := hide hst2
          clear hc2 hx hst2
          unfold WrAt at d0
          rw [hwa] at c0
          by_cases hk : x.key = key
          · have S3 := hide (S2.out.trans (if_pos hk))
            have hk' : (x.key == key) = true := by simp [hk]
            clear hk
            go_wp2
            all_goals
              go_roundw
              case rel => exact ⟨j + 1, by omega, rfl, by rw [S3.out]; congr 1; omega, trivial⟩
              case measure => simp [intOf]; omega
          · have S3 := hide (S2.out.trans (if_neg hk))
            have hk' : (x.key == key) = false := by simp [hk]
            clear hk
            go_wp2
            all_goals
              go_roundw
              case rel => exact ⟨j + 1, by omega, rfl, by rw [S3.out], trivial⟩
              case measure => simp [intOf]; omega
        · obtain rfl : j = li.t.writes.length := by omega
          rw [List.take_length] at HA
          go_wp2
          go_roundw
          case rel => exact ⟨i + 1, by omega, rfl, by rw [ST.out, HA.out]; rfl, trivial⟩
          case measure => simp [intOf]; omega
    · obtain rfl : i = L.op.length := by omega
      have hz : ((txs L.op).take L.op.length).foldl (nwTx key) n0 = newestLS L.d key := by
        rw [List.take_of_length_le (by rw [txs_len]; exact Nat.le_refl _)]
        show _ = (txs L.op).foldl (nwTx key) (newestRS L.st key).1
        rw [← HN.out]
      rw [hz]
      clear hz
      go_wp2
      try rw [Exit.noGoto_ret]
      go_ret
      exact ⟨rfl, BB.out⟩
end Go.Proofs.Ytficjpfhakggmaa
