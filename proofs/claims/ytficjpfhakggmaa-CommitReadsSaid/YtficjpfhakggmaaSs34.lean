/-
  Reads and writes compared.
-/
import Derived.Test.YtficjpfhakggmaaSo34
namespace Go.Proofs.Ytficjpfhakggmaa
open Go.RowKit
def eqSn (a1 a2 b1 b2 : Int) : Bool := decide ((⟨a1, a2⟩ : Sn) = ⟨b1, b2⟩)
def eqWr (a1 a2 : Int) (a4 : Bool) (b1 b2 : Int) (b4 : Bool) : Bool := decide ((⟨a1, a2, a4⟩ : Wr) = ⟨b1, b2, b4⟩)
theorem neqSn (a1 a2 b1 b2 : Int) (w : World) :
    (binOp .neq 65 (.agg #[.int .i64 a1, .int .i64 a2]) (.agg #[.int .i64 b1, .int .i64 b2])).run Try.prog w = .ok (.bool (!eqSn a1 a2 b1 b2)) w := by
  have hS : Try.prog.underlying 65 = some (.struct (Try.prog.fieldsOf 65)) := by kernel_rfl
  have hp : Try.prog.stoodInHeld 65 = false := by kernel_rfl
  have u3 := Try.underlying3
  rw [run_neq_struct, show (10000 : Nat) = 9999 + 1 from rfl, run_equalIn_agg w 9999 65 _ _ hS hp]
  simp only [Program.fieldsOf, Try.underlying65]
  go_simp
  by_cases h1 : a1 = b1 <;> by_cases h2 : a2 = b2 <;> simp [eqSn, h1, h2]
theorem neqWr (a1 a2 b1 b2 : Int) (a4 b4 : Bool) (w : World) :
    (binOp .neq 60 (.agg #[.int .i64 a1, .int .i64 a2, .bool a4]) (.agg #[.int .i64 b1, .int .i64 b2, .bool b4])).run Try.prog w = .ok (.bool (!eqWr a1 a2 a4 b1 b2 b4)) w := by
  have hS : Try.prog.underlying 60 = some (.struct (Try.prog.fieldsOf 60)) := by kernel_rfl
  have hp : Try.prog.stoodInHeld 60 = false := by kernel_rfl
  have u3 := Try.underlying3
  have u4 := Try.underlying4
  rw [run_neq_struct, show (10000 : Nat) = 9999 + 1 from rfl, run_equalIn_agg w 9999 60 _ _ hS hp]
  simp only [Program.fieldsOf, Try.underlying60]
  go_simp
  by_cases h1 : a1 = b1 <;> by_cases h2 : a2 = b2 <;> by_cases h4 : a4 = b4 <;> simp [eqWr, h1, h2, h4]
attribute [go_sem high] neqSn neqWr
end Go.Proofs.Ytficjpfhakggmaa

namespace Go.Proofs.Ytficjpfhakggmaa
open Go.RowKit
theorem two_tx (a b : TxV) (w : World) (t : TypeId) : ∃ W, W = (w.alloc (.cells #[.int .i64 a.t.id, .int .i64 a.t.ts, .slice a.ra a.t.reads.length a.rc, .slice a.wa a.t.writes.length a.wc] t)).alloc (.cells #[.int .i64 b.t.id, .int .i64 b.t.ts, .slice b.ra b.t.reads.length b.rc, .slice b.wa b.t.writes.length b.wc] t) ∧
    W.heap.size = w.heap.size + 2 ∧ Below w.heap.size w W ∧ TxAt W w.heap.size 0 a ∧ TxAt W (w.heap.size + 1) 0 b := by
  refine ⟨_, rfl, by simp, ((Below.refl _ _).alloc (Nat.le_refl _) _).alloc (by simp) _, ?_, ?_⟩
  · exact TxAt.new.below ((Below.refl _ _).alloc (Nat.le_refl _) _) (by simp)
  · have h := TxAt.new (w := w.alloc (.cells #[.int .i64 a.t.id, .int .i64 a.t.ts, .slice a.ra a.t.reads.length a.rc, .slice a.wa a.t.writes.length a.wc] t)) (s := b) (t := t)
    rw [World.size_alloc] at h
    exact h
set_option maxHeartbeats 8000000 in
set_option maxRecDepth 100000 in
theorem rSameTx_any (a b : TxV) (w : World) (hn : a.t.reads.length ≤ 100 ∧ a.t.writes.length ≤ 100) (h : TxW w a) (h' : TxW w b) :
    Calls Try.prog 19 #[.agg #[.int .i64 a.t.id, .int .i64 a.t.ts, .slice a.ra a.t.reads.length a.rc, .slice a.wa a.t.writes.length a.wc], .agg #[.int .i64 b.t.id, .int .i64 b.t.ts, .slice b.ra b.t.reads.length b.rc, .slice b.wa b.t.writes.length b.wc]] w
      fun e w' => e = .returned (.bool (decide (a.t = b.t))) ∧ Below w.heap.size w w' := by
  obtain ⟨W, hW, hs, hb, ta, tb⟩ := two_tx a b w 29
  have HA := hide (h.then_ hb)
  have HB := hide (h'.then_ hb)
  have TA := hide ta
  have TB := hide tb
  have B0 := hide hb
  clear h h' hb
  obtain ⟨⟨id, ts, rd, wt⟩, ra, rc, wa, wc⟩ := a
  obtain ⟨⟨id', ts', rd', wt'⟩, ra', rc', wa', wc'⟩ := b
  have HW := hide hW
  unfold TxAt at ta tb
  dsimp only at ta tb hn ⊢
  clear hW
  have hno : ¬(id = id' ∧ ts = ts' ∧ rd = rd' ∧ wt = wt') → decide ((⟨id, ts, rd, wt⟩ : Tx) = ⟨id', ts', rd', wt'⟩) = false := fun h => decide_eq_false (fun e => h (by injection e with e1 e2 e3 e4; exact ⟨e1, e2, e3, e4⟩))
  obtain ⟨r, hr⟩ : ∃ r, r = decide ((⟨id, ts, rd, wt⟩ : Tx) = ⟨id', ts', rd', wt'⟩) := ⟨_, rfl⟩
  rw [← hr] at hno ⊢
  have HR := hide hr
  have NO := hide hno
  clear hno hr
  have hcase : (id != id') = true ∧ id ≠ id' ∨ (id != id') = false ∧ id = id' ∧ ((ts != ts') = true ∧ ts ≠ ts' ∨ (ts != ts') = false ∧ ts = ts' ∧ (((rd.length : Int) != rd'.length) = true ∧ rd ≠ rd' ∨ ((rd.length : Int) != rd'.length) = false ∧ rd.length = rd'.length ∧ (((wt.length : Int) != wt'.length) = true ∧ wt ≠ wt' ∨ ((wt.length : Int) != wt'.length) = false ∧ wt.length = wt'.length))) := by
    by_cases h1 : id = id' <;> by_cases h2 : ts = ts' <;> by_cases h3 : rd.length = rd'.length <;> by_cases h4 : wt.length = wt'.length <;> simp [h1, h2, h3, h4]
    all_goals (first | (refine ⟨by omega, ?_⟩; intro e; first | exact h3 (by rw [e]) | exact h4 (by rw [e])) | (intro e; first | exact h3 (by rw [e]) | exact h4 (by rw [e])))
  rcases hcase with ⟨q1, f⟩ | ⟨q1, e1, ⟨q2, f⟩ | ⟨q2, e2, ⟨q3, f⟩ | ⟨q3, e3, ⟨q4, f⟩ | ⟨q4, e4⟩⟩⟩⟩
  · have HF := hide (NO.out (fun h => f h.1))
    clear f
    go_enter Try.func19, Try.ntmps19
    go_upto_region 1 with fail
    rw [← HW.out]
    go_wp2
    go_ret
    exact ⟨by rw [HF.out]; rfl, B0.out⟩
  · have HF := hide (NO.out (fun h => f h.2.1))
    clear f e1
    go_enter Try.func19, Try.ntmps19
    go_upto_region 1 with fail
    rw [← HW.out]
    go_wp2
    go_ret
    exact ⟨by rw [HF.out]; rfl, B0.out⟩
  · have HF := hide (NO.out (fun h => f h.2.2.1))
    clear f e1 e2
    go_enter Try.func19, Try.ntmps19
    go_upto_region 1 with fail
    rw [← HW.out]
    go_wp2
    go_ret
    exact ⟨by rw [HF.out]; rfl, B0.out⟩
  · have HF := hide (NO.out (fun h => f h.2.2.2))
    clear f e1 e2 e3
    go_enter Try.func19, Try.ntmps19
    go_upto_region 1 with fail
    rw [← HW.out]
    go_wp2
    go_ret
    exact ⟨by rw [HF.out]; rfl, B0.out⟩
  · have E1 := hide e1
    have E2 := hide e2
    have E3 := hide e3
    have E4 := hide e4
    clear e1 e2 e3 e4
    go_enter Try.func19, Try.ntmps19
    go_upto_region 1 with fail
    rw [← HW.out]
    go_wp2_with fail
    have LA := hide hn
    clear ta tb
    go_loopw [4, 5] (fun u4 u5 wr => ∃ k : Nat, k ≤ rd.length ∧ u5 = .int .i64 k ∧ u4 = .bool false ∧ (∀ j (hj : j < rd.length) (hj' : j < rd'.length), j < k → rd[j] = rd'[j]) ∧ Below W.heap.size W wr) (fun _ u5 _ => rd.length - (intOf u5).toNat)
    case atStart => exact ⟨0, Nat.zero_le _, rfl, rfl, fun j _ _ hj => by omega, Below.refl _ _⟩
    case round =>
      obtain ⟨k, hk, rfl, rfl, hall, hb⟩ := hrel
      have HK := hide hall
      have BB := hide hb
      clear hall
      have hsr : W.heap.size ≤ wr.heap.size := hb.size
      have hl1 : rd.length ≤ rd'.length := Nat.le_of_eq E3.out
      have hl2 : rd'.length ≤ rd.length := Nat.le_of_eq E3.out.symm
      have hh := LA.out.1
      have t0 := (TxAt.below TA.out hb (show w.heap.size < W.heap.size by omega)).fut (show w.heap.size < wr.heap.size by omega)
      have t1 := (TxAt.below TB.out hb (show w.heap.size + 1 < W.heap.size by omega)).fut (show w.heap.size + 1 < wr.heap.size by omega)
      have z0 := TxAt.below TA.out hb (show w.heap.size < W.heap.size by omega)
      have z1 := TxAt.below TB.out hb (show w.heap.size + 1 < W.heap.size by omega)
      unfold TxAt at t0 t1 z0 z1
      dsimp only at t0 t1 z0 z1
      clear hb
      by_cases hlt : k < rd.length
      · have hlt' : k < rd'.length := by omega
        obtain ⟨b, o, rfl, hbl, hc⟩ := SnS.at_ (HA.out.r.then_ BB.out) hlt
        obtain ⟨b', o', rfl, hbl', hc'⟩ := SnS.at_ (HB.out.r.then_ BB.out) hlt'
        have n0 := (hc k hlt).fut hbl
        have n1 := (hc' k hlt').fut hbl'
        unfold SnAt at n0 n1
        clear hc hc'
        have hi1 : (k : Int) < rd.length := by omega
        have hi3 : (k : Int) < rd'.length := by omega
        have hi2 : (0 : Int) ≤ k := by omega
        go_wp2_with fail
        have heq : eqSn rd[k].key rd[k].ts rd'[k].key rd'[k].ts = decide (rd[k] = rd'[k]) := rfl
        by_cases hq : rd[k] = rd'[k]
        all_goals
          first | rw [decide_eq_true hq] at heq | rw [decide_eq_false hq] at heq
          have HQ := hide hq
          clear hq
          refine wp_region_fut wr.heap.size (by kernel_rfl) (by kernel_rfl) ?_
          repeat (go_big_quiet_step ((first | fail)))
          refine wpQuiet_nil ?_
          intro w1 hq'; have hb1 := Fut.of hq'; clear hq'
          go_wp2
        · go_roundw
          case rel => exact ⟨k + 1, by omega, by go_num, rfl, fun j h1 h2 hj => (by rcases Nat.lt_succ_iff_lt_or_eq.1 hj with hj | rfl; exact HK.out j h1 h2 hj; exact HQ.out), BB.out.trans (hb1.mono hsr)⟩
          case measure => simp [intOf]; omega
        · go_ret
          exact ⟨by rw [NO.out (fun h => HQ.out (by simp only [h.2.2.1]))]; rfl, B0.out.trans ((BB.out.trans (hb1.mono hsr)).mono B0.out.size)⟩
      · have RE := hide (List.ext_getElem E3.out (fun j h1 h2 => HK.out j h1 h2 (by omega)))
        clear t0 t1
        go_wp2_with fail
        try go_step3
        try (go_wp2_with fail)
        go_loopw [4, 6] (fun u4 u6 wj => ∃ k : Nat, k ≤ wt.length ∧ u6 = .int .i64 k ∧ u4 = .bool false ∧ (∀ j (hj : j < wt.length) (hj' : j < wt'.length), j < k → wt[j] = wt'[j]) ∧ Below W.heap.size W wj) (fun _ u6 _ => wt.length - (intOf u6).toNat)
        case atStart => exact ⟨0, Nat.zero_le _, rfl, rfl, fun j _ _ hj => by omega, BB.out⟩
        case round =>
          obtain ⟨k, hk, rfl, rfl, hall, hb⟩ := hrel
          have HK2 := hide hall
          have BB2 := hide hb
          clear hall
          have hsr : W.heap.size ≤ wr.heap.size := hb.size
          have hl1 : wt.length ≤ wt'.length := Nat.le_of_eq E4.out
          have hl2 : wt'.length ≤ wt.length := Nat.le_of_eq E4.out.symm
          have hh := LA.out.2
          have t0 := (TxAt.below TA.out hb (show w.heap.size < W.heap.size by omega)).fut (show w.heap.size < wr.heap.size by omega)
          have t1 := (TxAt.below TB.out hb (show w.heap.size + 1 < W.heap.size by omega)).fut (show w.heap.size + 1 < wr.heap.size by omega)
          have z0 := TxAt.below TA.out hb (show w.heap.size < W.heap.size by omega)
          have z1 := TxAt.below TB.out hb (show w.heap.size + 1 < W.heap.size by omega)
          unfold TxAt at t0 t1 z0 z1
          dsimp only at t0 t1 z0 z1
          clear hb
          by_cases hlt : k < wt.length
          · have hlt' : k < wt'.length := by omega
            obtain ⟨b, o, rfl, hbl, hc⟩ := WrS.at_ (HA.out.s.then_ BB2.out) hlt
            obtain ⟨b', o', rfl, hbl', hc'⟩ := WrS.at_ (HB.out.s.then_ BB2.out) hlt'
            have n0 := (hc k hlt).fut hbl
            have n1 := (hc' k hlt').fut hbl'
            unfold WrAt at n0 n1
            clear hc hc'
            have hi1 : (k : Int) < wt.length := by omega
            have hi3 : (k : Int) < wt'.length := by omega
            have hi2 : (0 : Int) ≤ k := by omega
            go_wp2_with fail
            have heq : eqWr wt[k].key wt[k].value wt[k].gone wt'[k].key wt'[k].value wt'[k].gone = decide (wt[k] = wt'[k]) := rfl
            by_cases hq : wt[k] = wt'[k]
            all_goals
              first | rw [decide_eq_true hq] at heq | rw [decide_eq_false hq] at heq
              have HQ := hide hq
              clear hq
              refine wp_region_fut wr.heap.size (by kernel_rfl) (by kernel_rfl) ?_
              repeat (go_big_quiet_step ((first | fail)))
              refine wpQuiet_nil ?_
              intro w1 hq'; have hb1 := Fut.of hq'; clear hq'
              go_wp2
            · go_roundw
              case rel => exact ⟨k + 1, by omega, by go_num, rfl, fun j h1 h2 hj => (by rcases Nat.lt_succ_iff_lt_or_eq.1 hj with hj | rfl; exact HK2.out j h1 h2 hj; exact HQ.out), BB2.out.trans (hb1.mono hsr)⟩
              case measure => simp [intOf]; omega
            · go_ret
              exact ⟨by rw [NO.out (fun h => HQ.out (by simp only [h.2.2.2]))]; rfl, B0.out.trans ((BB2.out.trans (hb1.mono hsr)).mono B0.out.size)⟩
          · have WE := hide (List.ext_getElem E4.out (fun j h1 h2 => HK2.out j h1 h2 (by omega)))
            have RT : r = true := by rw [HR.out]; exact decide_eq_true (by rw [E1.out, E2.out, RE.out, WE.out])
            subst RT
            go_wp2
            go_ret
            exact ⟨rfl, B0.out.trans (BB2.out.mono B0.out.size)⟩
end Go.Proofs.Ytficjpfhakggmaa

namespace Go.Proofs.Ytficjpfhakggmaa
open Go.RowKit
def smTx (t : Tx) : Bool := decide (t.reads.length ≤ 20) && decide (t.writes.length ≤ 20)
def fewTB (l : List Tx) : Bool := l.all smTx && decide (l.length ≤ 30)
theorem fewT_no {l : List TxV} {k : Nat} (hk : k < l.length) (h : smTx l[k].t = false) : fewTB (txs l) = false := by
  have : (txs l).all smTx = false := List.all_eq_false.2 ⟨l[k].t, List.mem_map.2 ⟨l[k], List.getElem_mem _, rfl⟩, by simp [h]⟩
  unfold fewTB
  rw [this]; rfl
theorem fewT_yes {l : List TxV} (h : ∀ j (hj : j < l.length), smTx l[j].t = true) : fewTB (txs l) = decide (l.length ≤ 30) := by
  have : (txs l).all smTx = true := List.all_eq_true.2 fun t ht => by
    obtain ⟨v, hv, rfl⟩ := List.mem_map.1 ht
    obtain ⟨j, hj, rfl⟩ := List.getElem_of_mem hv
    exact h j hj
  unfold fewTB
  rw [this, txs_len]; rfl
set_option maxHeartbeats 4000000 in
theorem fewTxs_any (A : Option Addr) (c : Nat) (l : List TxV) (w : World) (hc : l.length ≤ c) (hm : c ≤ maxLen) (h : TS w A l) :
    Calls Try.prog 13 #[.slice A l.length c] w fun e w' => e = .returned (.bool (fewTB (txs l))) ∧ w = w' := by
  have HS := hide h
  simp only [maxLen] at hm
  clear h
  go_enter Try.func13, Try.ntmps13
  go_wp2_with fail
  go_loopw [2, 3] (fun u2 u3 wr => ∃ k : Nat, k ≤ l.length ∧ u3 = .int .i64 k ∧ u2 = .bool false ∧ (∀ j (hj : j < l.length), j < k → smTx l[j].t = true) ∧ wr = w) (fun _ u3 _ => l.length - (intOf u3).toNat)
  case atStart => exact ⟨0, Nat.zero_le _, rfl, rfl, fun j _ hj => by omega, rfl⟩
  case round =>
    obtain ⟨k, hk, rfl, rfl, hall, rfl⟩ := hrel
    have HA := hide hall
    clear hall
    by_cases hlt : k < l.length
    · obtain ⟨b, o, rfl, hbl, hcc⟩ := HS.out.at_ hlt
      obtain ⟨c0, cw⟩ := hcc k hlt
      have b1 := Nat.le_trans cw.rl cw.rm
      have b2 := Nat.le_trans cw.wl cw.wm
      have NO := hide fun h => fewT_no hlt h
      simp only [maxLen] at b1 b2
      obtain ⟨v, hv⟩ : ∃ v, v = l[k] := ⟨_, rfl⟩
      have HV := hide hv
      rw [← hv] at c0 b1 b2 NO
      clear hcc cw hv
      unfold TxAt at c0
      by_cases h1 : v.t.reads.length ≤ 20
      · have d1 : decide ((20 : Int) < v.t.reads.length) = false := decide_eq_false (by omega)
        by_cases h2 : v.t.writes.length ≤ 20
        · have d2 : decide ((20 : Int) < v.t.writes.length) = false := decide_eq_false (by omega)
          have SM := hide (show smTx v.t = true by simp [smTx, h1, h2])
          clear h1 h2
          go_wp2
          go_roundw
          case rel => exact ⟨k + 1, by omega, by go_num, rfl, fun j h1 hj => (by rcases Nat.lt_succ_iff_lt_or_eq.1 hj with hj | rfl; exact HA.out j h1 hj; exact HV.out ▸ SM.out), trivial⟩
          case measure => simp [intOf]; omega
        · have d2 : decide ((20 : Int) < v.t.writes.length) = true := decide_eq_true (by omega)
          have SM := hide (show smTx v.t = false by simp [smTx, h2])
          clear h1 h2
          go_wp2
          go_ret
          exact ⟨by rw [NO.out SM.out]; rfl, rfl⟩
      · have d1 : decide ((20 : Int) < v.t.reads.length) = true := decide_eq_true (by omega)
        have SM := hide (show smTx v.t = false by simp [smTx, h1])
        clear h1
        go_wp2
        go_ret
        exact ⟨by rw [NO.out SM.out]; rfl, rfl⟩
    · have HY := hide (fewT_yes (l := l) (fun j hj => HA.out j hj (by omega)))
      have h30 : decide ((l.length : Int) ≤ 30) = decide (l.length ≤ 30) := by rw [decide_eq_decide]; omega
      have H3 := hide h30
      clear h30
      go_wp2
      go_ret
      exact ⟨by rw [HY.out, ← H3.out]; rfl, rfl⟩
end Go.Proofs.Ytficjpfhakggmaa

namespace Go.Proofs.Ytficjpfhakggmaa
open Go.RowKit
def fewLB (L : LD) : Bool := decide (L.st.length ≤ 60) && fewTB L.op
set_option maxHeartbeats 2000000 in
theorem few_any (L : LdV) (w : World) (h : LdW w L) :
    Calls Try.prog 12 #[.agg #[.int .i64 L.last, .slice L.sa L.st.length L.sc, .slice L.oa L.op.length L.oc]] w fun e w' => e = .returned (.bool (fewLB L.d)) ∧ Below w.heap.size w w' := by
  have F := hide fun W (s : TS W L.oa L.op) => fewTxs_any L.oa L.oc L.op W h.ol h.om s
  have TO := hide h.o
  have hb := Nat.le_trans h.sl h.sm
  simp only [maxLen] at hb
  clear h
  obtain ⟨r, hr⟩ : ∃ r, r = fewLB L.d := ⟨_, rfl⟩
  have hr2 : r = (decide (L.st.length ≤ 60) && fewTB (txs L.op)) := hr
  rw [← hr]
  have HR := hide hr2
  clear hr hr2
  by_cases h6 : L.st.length ≤ 60
  · have d1 : decide ((L.st.length : Int) ≤ 60) = true := decide_eq_true (by omega)
    have R2 := hide (show r = fewTB (txs L.op) by rw [HR.out, decide_eq_true h6]; rfl)
    clear h6
    go_enter Try.func12, Try.ntmps12
    go_wp2_with (go_at_call 13; refine (F.out _ (TO.out.alloc _)).mono ?_; rintro e w1 ⟨rfl, rfl⟩)
    go_ret
    exact ⟨by rw [R2.out]; rfl, (Below.refl _ _).alloc (Nat.le_refl _) _⟩
  · have d1 : decide ((L.st.length : Int) ≤ 60) = false := decide_eq_false (by omega)
    have R2 := hide (show r = false by rw [HR.out, decide_eq_false h6]; rfl)
    clear h6
    go_enter Try.func12, Try.ntmps12
    go_wp2
    go_ret
    exact ⟨by rw [R2.out]; rfl, (Below.refl _ _).alloc (Nat.le_refl _) _⟩
end Go.Proofs.Ytficjpfhakggmaa

namespace Go.Proofs.Ytficjpfhakggmaa
open Go.RowKit
def LitL (l : List TxV) : Prop := ∀ v ∈ l, v.t.reads.length ≤ 100 ∧ v.t.writes.length ≤ 100
theorem two_drew {w W : World} {b o b' o' : Nat} {u v : TxV} (h : Below w.heap.size w W ∧ TxAt W b o u ∧ TxAt W b' o' v) : Below w.heap.size w W.drew ∧ TxAt W.drew b o u ∧ TxAt W.drew b' o' v := ⟨h.1.drew, h.2.1, h.2.2⟩
theorem two_call {w W W' : World} {b o b' o' : Nat} {u v : TxV} (hb : Below W.heap.size W W') (h : Below w.heap.size w W ∧ TxAt W b o u ∧ TxAt W b' o' v) : Below w.heap.size w W' ∧ TxAt W' b o u ∧ TxAt W' b' o' v := ⟨thenB h.1 hb, h.2.1.below hb (cell_lt h.2.1.1), h.2.2.below hb (cell_lt h.2.2.1)⟩
set_option maxHeartbeats 4000000 in
theorem rSameTxs_any (A B : Option Addr) (c d : Nat) (l m : List TxV) (w : World) (hn : LitL l) (hl : l.length ≤ 100000) (hm : m.length ≤ 100000) (h : TS w A l) (h' : TS w B m) :
    Calls Try.prog 22 #[.slice A l.length c, .slice B m.length d] w fun e w' => e = .returned (.bool (decide (txs l = txs m))) ∧ Below w.heap.size w w' := by
  have HS := hide h
  have HT := hide h'
  have HN := hide hn
  clear h h' hn
  obtain ⟨r, hr⟩ : ∃ r, r = decide (txs l = txs m) := ⟨_, rfl⟩
  rw [← hr]
  have hno : txs l ≠ txs m → r = false := fun h => by rw [hr]; exact decide_eq_false h
  have NO := hide hno
  have HR := hide hr
  clear hr hno
  by_cases hlen : l.length = m.length
  · have q1 : ((l.length : Int) != m.length) = false := by simp [hlen]
    have hl1 : l.length ≤ m.length := by omega
    have HL := hide hlen
    clear hlen
    go_enter Try.func22, Try.ntmps22
    go_wp2_with fail
    go_loopw [4, 5] (fun u4 u5 wr => ∃ k : Nat, k ≤ l.length ∧ u5 = .int .i64 k ∧ u4 = .bool false ∧ (∀ j (hj : j < l.length) (hj' : j < m.length), j < k → l[j].t = m[j].t) ∧ Below w.heap.size w wr) (fun _ u5 _ => l.length - (intOf u5).toNat)
    case atStart => exact ⟨0, Nat.zero_le _, rfl, rfl, fun j _ _ hj => by omega, Below.refl _ _⟩
    case round =>
      obtain ⟨k, hk, rfl, rfl, hall, hb⟩ := hrel
      have HA := hide hall
      have BB := hide hb
      have hsr := hb.size
      clear hall hb
      by_cases hlt : k < l.length
      · have hlt' : k < m.length := by omega
        obtain ⟨b, o, rfl, hbl, hcc⟩ := (HS.out.then_ BB.out).at_ hlt
        obtain ⟨b', o', rfl, hbl', hcc'⟩ := (HT.out.then_ BB.out).at_ hlt'
        obtain ⟨c0, cw⟩ := hcc k hlt
        obtain ⟨d0, dw⟩ := hcc' k hlt'
        have X0 := fun W (s : Below wr.heap.size wr W) => rSameTx_any l[k] m[k] W (HN.out _ (List.getElem_mem _)) (cw.then_ s) (dw.then_ s)
        obtain ⟨li, hli⟩ : ∃ v, v = l[k] := ⟨_, rfl⟩
        obtain ⟨mi, hmi⟩ : ∃ v, v = m[k] := ⟨_, rfl⟩
        have L1 := hide hli
        have M1 := hide hmi
        rw [← hli] at c0 X0
        rw [← hmi] at d0 X0
        have KD := hide (show Below wr.heap.size wr wr ∧ TxAt wr b (o + k * 4) li ∧ TxAt wr b' (o' + k * 4) mi from ⟨Below.refl _ _, c0, d0⟩)
        clear hcc hcc' cw dw hli hmi
        unfold TxAt at c0 d0
        have hi1 : (k : Int) < l.length := by omega
        have hi3 : (k : Int) < m.length := by omega
        have hi2 : (0 : Int) ≤ k := by omega
        by_cases hq : li.t = mi.t
        all_goals
          first | rw [decide_eq_true hq] at X0 | rw [decide_eq_false hq] at X0
          have HQ := hide hq
          have X := hide X0
          clear X0 hq
          go_wp2_with fail
          go_region_held3 (fun w' => Below wr.heap.size wr w' ∧ (w'.cell? ⟨b, o + k * 4 , none⟩ = some (.int .i64 li.t.id) ∧ w'.cell? ⟨b, o + k * 4 + 1, none⟩ = some (.int .i64 li.t.ts) ∧ w'.cell? ⟨b, o + k * 4 + 2, none⟩ = some (.slice li.ra li.t.reads.length li.rc) ∧ w'.cell? ⟨b, o + k * 4 + 3, none⟩ = some (.slice li.wa li.t.writes.length li.wc)) ∧ w'.cell? ⟨b', o' + k * 4 , none⟩ = some (.int .i64 mi.t.id) ∧ w'.cell? ⟨b', o' + k * 4 + 1, none⟩ = some (.int .i64 mi.t.ts) ∧ w'.cell? ⟨b', o' + k * 4 + 2, none⟩ = some (.slice mi.ra mi.t.reads.length mi.rc) ∧ w'.cell? ⟨b', o' + k * 4 + 3, none⟩ = some (.slice mi.wa mi.t.writes.length mi.wc))
            (first | exact two_drew KD.out | exact two_drew (by assumption) | exact two_call (by assumption) (by assumption))
            ((go_at_call 19; with_reducible refine (X.out _ (And.left (by assumption))).mono ?_; rintro e w1 ⟨rfl, hb1⟩))
          go_wp2
        · go_roundw
          case rel => exact ⟨k + 1, by omega, by go_num, rfl, fun j h1 h2 hj => (by rcases Nat.lt_succ_iff_lt_or_eq.1 hj with hj | rfl; exact HA.out j h1 h2 hj; rw [← L1.out, ← M1.out]; exact HQ.out), BB.out.trans ((Below.refl w.heap.size wr).drew.trans (hb1.mono hsr))⟩
          case measure => simp [intOf]; omega
        · go_ret
          exact ⟨by rw [NO.out (fun h => HQ.out (by rw [L1.out, M1.out]; have := congrArg (fun x => x[k]?) h; simpa [txs, hlt, hlt'] using this))]; rfl, BB.out.trans ((Below.refl w.heap.size wr).drew.trans (hb1.mono hsr))⟩
      · have RT : r = true := by
          rw [HR.out]
          refine decide_eq_true (List.ext_getElem (by simp [txs, HL.out]) fun j h1 h2 => ?_)
          simp only [txs, List.getElem_map]
          simp only [txs, List.length_map] at h1 h2
          exact HA.out j h1 h2 (by omega)
        subst RT
        go_wp2
        go_ret
        exact ⟨rfl, BB.out⟩
  · have q1 : ((l.length : Int) != m.length) = true := by simp; omega
    have NE := hide (NO.out fun h => hlen (by have := congrArg List.length h; simpa [txs] using this))
    clear hlen
    go_enter Try.func22, Try.ntmps22
    go_wp2
    go_ret
    exact ⟨by rw [NE.out]; rfl, Below.refl _ _⟩
theorem ldB_eq (L M : LdV) : decide (L.d = M.d) = (decide (L.last = M.last) && (decide (L.st = M.st) && decide (txs L.op = txs M.op))) := by
  rw [Bool.eq_iff_iff]
  simp [LdV.d, Bool.and_eq_true]
set_option maxHeartbeats 4000000 in
theorem rSameL_any (L M : LdV) (w : World) (hn : LitL L.op) (hl : L.st.length ≤ 100000 ∧ M.st.length ≤ 100000 ∧ L.op.length ≤ 100000 ∧ M.op.length ≤ 100000) (h : LdW w L) (h' : LdW w M) :
    Calls Try.prog 18 #[.agg #[.int .i64 L.last, .slice L.sa L.st.length L.sc, .slice L.oa L.op.length L.oc], .agg #[.int .i64 M.last, .slice M.sa M.st.length M.sc, .slice M.oa M.op.length M.oc]] w fun e w' => e = .returned (.bool (decide (L.d = M.d))) ∧ Below w.heap.size w w' := by
  have HL := hide h
  have HM := hide h'
  have b2 := hide ((((Below.refl w.heap.size w).alloc (Nat.le_refl _) (.cells #[.int .i64 L.last, .slice L.sa L.st.length L.sc, .slice L.oa L.op.length L.oc] 25)).alloc (by simp) (.cells #[.int .i64 M.last, .slice M.sa M.st.length M.sc, .slice M.oa M.op.length M.oc] 25)))
  have KP := hide ((Blk.new w 25 #[.int .i64 L.last, .slice L.sa L.st.length L.sc, .slice L.oa L.op.length L.oc]).alloc (.cells #[.int .i64 M.last, .slice M.sa M.st.length M.sc, .slice M.oa M.op.length M.oc] 25))
  have KQ0 := Blk.new (w.alloc (.cells #[.int .i64 L.last, .slice L.sa L.st.length L.sc, .slice L.oa L.op.length L.oc] 25)) 25 #[.int .i64 M.last, .slice M.sa M.st.length M.sc, .slice M.oa M.op.length M.oc]
  rw [World.size_alloc] at KQ0
  have KQ := hide KQ0
  have S := hide fun W (s : VS W L.sa L.st) (s' : VS W M.sa M.st) => rSame_any L.sa M.sa L.sc M.sc L.st M.st W (by omega) s s'
  have T := hide fun W (s : TS W L.oa L.op) (s' : TS W M.oa M.op) => rSameTxs_any L.oa M.oa L.oc M.oc L.op M.op W hn (by omega) (by omega) s s'
  rw [ldB_eq]
  clear h h' KQ0
  have RC : decide (L.last = M.last) = false ∨ decide (L.last = M.last) = true ∧ (sameB L.st M.st = false ∨ sameB L.st M.st = true) := by
    cases decide (L.last = M.last) <;> cases sameB L.st M.st <;> simp
  have hd : decide (L.st = M.st) = sameB L.st M.st := rfl
  rw [hd]
  have q0 : ((L.last : Int) == M.last) = decide (L.last = M.last) := rfl
  obtain ⟨r, hr⟩ : ∃ r, r = decide (txs L.op = txs M.op) := ⟨_, rfl⟩
  rw [← hr] at T ⊢
  clear hr hd
  rcases RC with h1 | ⟨h1, h2 | h2⟩
  · rw [h1] at q0 ⊢
    clear h1
    go_enter Try.func18, Try.ntmps18
    go_wp2
    go_ret
    exact ⟨rfl, b2.out⟩
  · rw [h1] at q0 ⊢
    rw [h2] at S ⊢
    clear h1 h2
    go_enter Try.func18, Try.ntmps18
    go_wp2_with (first
      | (go_at_call 38; refine (S.out _ (HL.out.s.then_ b2.out) (HM.out.s.then_ b2.out)).mono ?_; rintro e w1 ⟨rfl, hb⟩; have B3 := hide (thenB b2.out hb); clear hb))
    go_ret
    exact ⟨rfl, B3.out⟩
  · rw [h1] at q0 ⊢
    rw [h2] at S ⊢
    clear h1 h2
    go_enter Try.func18, Try.ntmps18
    go_wp2_with (first
      | (go_at_call 38; refine (S.out _ (HL.out.s.then_ b2.out) (HM.out.s.then_ b2.out)).mono ?_; rintro e w1 ⟨rfl, hb⟩; have B3 := hide (thenB b2.out hb); have p1 := (KP.out.below hb KP.out.lt).cell; have q1 := (KQ.out.below hb KQ.out.lt).cell; clear hb)
      | (go_at_call 22; refine (T.out _ (HL.out.o.then_ B3.out) (HM.out.o.then_ B3.out)).mono ?_; rintro e w2 ⟨rfl, hb⟩; have B4 := hide (thenB B3.out hb); clear hb))
    go_ret
    exact ⟨rfl, B4.out⟩
end Go.Proofs.Ytficjpfhakggmaa
