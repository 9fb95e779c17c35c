/-
  A map from integers to integers as a function; the newest timestamps as such a function.
-/
import Derived.Test.YtficjpfhakggmaaRw34
import Derived.Maps.OwnOps
import Derived.Maps.Views
namespace Go.Proofs.Ytficjpfhakggmaa
open Go.RowKit Go.Maps
theorem lawI : Keyed Try.prog 3 := int_keyed Try.underlying3
theorem zeroI (w : World) : (zeroValue 3).run Try.prog w = .ok (.int .i64 0) w := by kernel_rfl
def MapI (w : World) (b n : Nat) (f : Int → Int) : Prop :=
  ∃ (m : Nat) (D : DataW Unit), m ≤ n ∧ w.ownsMap Try.prog 3 (plainElem Try.prog 3) b m D ∧ IsMap D ∧ ∀ k, (Lit.int .i64 k).wf = true → D.atKey (.int .i64 k) (.lit (.int .i64 0)) = .lit (.int .i64 (f k))
def upd (f : Int → Int) (k v : Int) : Int → Int := fun x => if x = k then v else f x
theorem lit_inj {a c : Int} (h : (DataW.lit (.int .i64 a) : DataW Unit) = .lit (.int .i64 c)) : a = c := by
  cases h
  rfl
section
variable {w w' : World} {b n : Nat} {f : Int → Int}
theorem MapI.made (w : World) : MapI (w.alloc (.map #[] 0)) w.heap.size 0 (fun _ => 0) := ⟨0, .map [], Nat.le_refl _, World.ownsMap_made _ _ _ _, isMap_empty, fun k _ => rfl⟩
theorem MapI.mono (h : MapI w b n f) {n' : Nat} (hn : n ≤ n') : MapI w b n' f := by
  obtain ⟨m, D, h1, h2⟩ := h
  exact ⟨m, D, Nat.le_trans h1 hn, h2⟩
theorem MapI.lt (h : MapI w b n f) : b < w.heap.size := by
  obtain ⟨m, D, _, h2, _⟩ := h
  exact h2.lt
theorem MapI.below {B : Nat} (h : MapI w b n f) (hb : Below B w w') (hB : b < B) : MapI w' b n f := by
  obtain ⟨m, D, h1, ⟨es, clock, e0, e1, e2, e3⟩, h3⟩ := h
  exact ⟨m, D, h1, ⟨es, clock, (hb.block b hB).trans e0, e1, e2, e3⟩, h3⟩
theorem MapI.alloc (h : MapI w b n f) (o : Obj) : MapI (w.alloc o) b n f := h.below ((Below.refl _ _).alloc (Nat.le_refl _) o) h.lt
theorem wfI {k : Int} (h : -9223372036854775808 ≤ k ∧ k ≤ 9223372036854775807) : (Lit.int .i64 k).wf = true := WalkArith.wf_i64 h
theorem MapI.run (h : MapI w b n f) {k : Int} (hk : (Lit.int .i64 k).wf = true) : (Instr.lookup 80 (.map (some b)) (.int .i64 k) false).run Try.prog w = .ok (.int .i64 (f k)) w := by
  obtain ⟨m, D, h1, h2, h3, h4⟩ := h
  obtain ⟨c, hr, hat, _⟩ := h2.lookup_int lawI Try.underlying80 Try.underlying3 (zeroI _) (keyOf_int_mk Try.underlying3 hk)
  have h5 : (DataW.lit (.int .i64 c) : DataW Unit) = .lit (.int .i64 (f k)) := hat.symm.trans (h4 k hk)
  have h6 : c = f k := lit_inj h5
  rw [hr, h6]
end
theorem step_look {P : Program} {w : World} {ops : Array Oper} {rest : List Oper} {o : Oper} {a : Act} {Q : Exit → Act → World → Prop} (hg : o.guard = none) (m x : Operand) (t : TypeId) (hop : o.op = Op.lookup t m x false) {mv k v : Value}
    (hm : a.eval m = mv) (hx : a.eval x = k) (hrun : (Instr.lookup t mv k false).run P w = .ok v w) (hK : wpList P ops Q rest (a.put o.dst v) w) : wpList P ops Q (o :: rest) a w := by
  refine wpList_plain hg fun K' hK' => ?_
  unfold Oper.wp
  simp [execOp, hop, hm, hx, hrun, Result.andThen]
  exact hK' _ _ hK
theorem step_upd {w : World} {ops : Array Oper} {rest : List Oper} {o : Oper} {a : Act} {Q : Exit → Act → World → Prop} (hg : o.guard = none) (m x v : Operand) (hop : o.op = Op.mapUpdate 80 m x v) {b n : Nat} {f : Int → Int}
    (hm : a.eval m = .map (some b)) (h : MapI w b n f) (hn : n < 1000000) (k c : Int) (hx : a.eval x = .int .i64 k) (hv : a.eval v = .int .i64 c) (hk : (Lit.int .i64 k).wf = true) (hc : (Lit.int .i64 c).wf = true)
    (hK : ∀ w', MapI w' b (n + 1) (upd f k c) → w.grownBy w' (some b) → wpList Try.prog ops Q rest (a.put o.dst undef) w') : wpList Try.prog ops Q (o :: rest) a w := by
  obtain ⟨m', D, h1, h2, h3, h4⟩ := h
  refine wpList_mapUpdate_own _ hg m x v _ hop _ 3 lawI Try.underlying80 _ b m' D hm h2 (by unfold maxLen; omega) _ _ _ hx hv (keyOf_int_mk Try.underlying3 hk) _ [] (plainElem_int Try.underlying3 hc) ?_
  intro w' ho hg'
  refine hK w' ⟨m' + 1, _, by omega, ho, h3.put _ _, fun j hj => ?_⟩ hg'
  unfold upd
  by_cases e : j = k
  · subst e
    have hj' : WideAt.IsKeyLit (.int .i64 j) := trivial
    rw [if_pos rfl, atKey_put_same h3 hj']
  · rw [if_neg e, atKey_put_other (by intro h; injection h with _ h; exact e h), h4 j hj]
def mapV (l : List Ver) : Int → Int := l.foldl (fun f v => upd f v.key (max (f v.key) v.ts)) (fun _ => 0)
def mapT (f : Int → Int) (t : Tx) : Int → Int := t.writes.foldl (fun f x => upd f x.key t.ts) f
def mapL (L : LD) : Int → Int := L.op.foldl mapT (mapV L.st)
theorem mapV_next (l : List Ver) {i : Nat} (hi : i < l.length) : mapV (l.take (i + 1)) = upd (mapV (l.take i)) l[i].key (max (mapV (l.take i) l[i].key) l[i].ts) := by
  unfold mapV
  rw [List.take_succ_eq_append_getElem hi, List.foldl_append]
  rfl
theorem mapV_bd0 : ∀ (l : List Ver) (f : Int → Int), (∀ v ∈ l, 0 ≤ v.ts ∧ v.ts ≤ 3000000000000000) → (∀ k, 0 ≤ f k ∧ f k ≤ 3000000000000000) → ∀ k, 0 ≤ l.foldl (fun f v => upd f v.key (max (f v.key) v.ts)) f k ∧ l.foldl (fun f v => upd f v.key (max (f v.key) v.ts)) f k ≤ 3000000000000000
  | [], f, _, hf, k => hf k
  | v :: l, f, h, hf, k => by
    rw [List.foldl_cons]
    refine mapV_bd0 l _ (fun u hu => h u (by simp [hu])) (fun j => ?_) k
    have h1 := h v (by simp)
    unfold upd
    by_cases e : j = v.key
    · rw [if_pos e]; have := hf v.key; omega
    · rw [if_neg e]; exact hf j
theorem wf_ts {v : Ver} (h : wfB v = true) : (1 ≤ v.key ∧ v.key ≤ 1000) ∧ (0 ≤ v.ts ∧ v.ts ≤ 3000000000000000) := by
  simp only [wfB, Bool.and_eq_true, decide_eq_true_eq] at h
  omega
theorem mapV_bd {l : List Ver} (h : Sto l) (i : Nat) (k : Int) : 0 ≤ mapV (l.take i) k ∧ mapV (l.take i) k ≤ 3000000000000000 :=
  mapV_bd0 _ _ (fun v hv => (wf_ts (h.wf v (List.mem_of_mem_take hv))).2) (fun _ => by constructor <;> omega) k
theorem form_key {t : Tx} (h : formB t = true) {i : Nat} (hi : i < t.writes.length) : 1 ≤ t.writes[i].key ∧ t.writes[i].key ≤ 1000 := by
  simp only [formB, Bool.and_eq_true, decide_eq_true_eq] at h
  have h1 := range_at hi h.1.1.1.1.2
  rw [wrAt_eq hi] at h1
  simp only [Bool.and_eq_true, decide_eq_true_eq] at h1
  omega
theorem form_tsb {t : Tx} (h : formB t = true) : 0 ≤ t.ts ∧ t.ts ≤ 3000000000000000 := by
  simp only [formB, Bool.and_eq_true, decide_eq_true_eq] at h
  omega
theorem mapT_next (f : Int → Int) (t : Tx) {i : Nat} (hi : i < t.writes.length) : (t.writes.take (i + 1)).foldl (fun f x => upd f x.key t.ts) f = upd ((t.writes.take i).foldl (fun f x => upd f x.key t.ts) f) t.writes[i].key t.ts := by
  rw [List.take_succ_eq_append_getElem hi, List.foldl_append]
  rfl
theorem mapL_next (f : Int → Int) (l : List Tx) {i : Nat} (hi : i < l.length) : (l.take (i + 1)).foldl mapT f = mapT ((l.take i).foldl mapT f) l[i] := by
  rw [List.take_succ_eq_append_getElem hi, List.foldl_append]
  rfl
end Go.Proofs.Ytficjpfhakggmaa

namespace Go.Proofs.Ytficjpfhakggmaa
open Go.RowKit Go.Maps
theorem Blk.grown {w w' : World} {g b : Nat} {t : TypeId} {cs : Array Value} (h : Blk w g t cs) (hg : w.grownBy w' (some b)) (hne : g ≠ b) : Blk w' g t cs := (hg.block g h.lt (by intro e; injection e with e; exact hne e)).trans h
set_option maxHeartbeats 8000000 in
set_option maxRecDepth 100000 in
theorem newest_any (L : LdV) (w : World) (hs : LdS L) (hok : L.ok = true) (h : LdW w L) :
    Calls Try.prog 45 #[.agg #[.int .i64 L.last, .slice L.sa L.st.length L.sc, .slice L.oa L.op.length L.oc]] w
      fun e w' => ∃ b n, e = .returned (.map (some b)) ∧ MapI w' b n (mapL L.d) ∧ Below w.heap.size w w' := by
  have hmm := @run_makeMap Try.prog
  have HL := hide h
  have HS := hide hs
  obtain ⟨hsto, hadd⟩ := lead_adds (show leadB L.last L.st (txs L.op) = true from hok)
  have FO := hide fun t ht => (chain_gt (ok_chain hok).1 t ht).2
  have SW := hide hsto
  have hst := hadd.len
  have hlo := (ok_chain hok).2
  clear h hs hok hsto hadd
  have hst' : L.st.length ≤ 4000 := by omega
  clear hst
  go_enter Try.func45, Try.ntmps45
  go_wp2_with fail
  obtain ⟨W, hW⟩ : ∃ W, (w.alloc (.cells #[.int .i64 L.last, .slice L.sa L.st.length L.sc, .slice L.oa L.op.length L.oc] 25)).alloc (.map #[] 0) = W := ⟨_, rfl⟩
  have hb0 : Below w.heap.size w W := by rw [← hW]; exact ((Below.refl _ _).alloc (Nat.le_refl _) _).alloc (by simp) _
  have B1 : Blk W w.heap.size 25 #[.int .i64 L.last, .slice L.sa L.st.length L.sc, .slice L.oa L.op.length L.oc] := by rw [← hW]; exact (Blk.new _ _ _).alloc _
  have M1 : MapI W (w.heap.size + 1) 0 (mapV (L.st.take 0)) := by
    have := MapI.made (w.alloc (.cells #[.int .i64 L.last, .slice L.sa L.st.length L.sc, .slice L.oa L.op.length L.oc] 25))
    rw [World.size_alloc, hW] at this
    exact this
  rw [hW]
  clear hW
  have HB := hide hb0
  have HK := hide B1
  have HM := hide M1
  clear hb0 B1 M1
  go_loopw [14] (fun u14 wr => ∃ (i : Nat), i ≤ L.st.length ∧ u14 = .int .i64 i ∧ MapI wr (w.heap.size + 1) i (mapV (L.st.take i)) ∧ Blk wr w.heap.size 25 #[.int .i64 L.last, .slice L.sa L.st.length L.sc, .slice L.oa L.op.length L.oc] ∧ Below w.heap.size w wr)
    (fun u14 _ => L.st.length - (intOf u14).toNat)
  case atStart => exact ⟨0, Nat.zero_le _, rfl, HM.out, HK.out, HB.out⟩
  case round =>
    clear HM HK HB
    obtain ⟨i, hil, rfl, hm, hk, hb⟩ := hrel
    have MX := hide hm
    have KX := hide hk
    have BX := hide hb
    have hlt1 := hm.lt
    clear hm hk hb
    by_cases hlt : i < L.st.length
    · obtain ⟨b, o', hoa, hb', hc⟩ := (HL.out.s.then_ BX.out).at_ hlt
      have c0 := hc i hlt
      have W0 := wf_ts (SW.out.wf _ (List.getElem_mem hlt))
      have N0 := mapV_next L.st hlt
      obtain ⟨x, hx⟩ : ∃ x, x = L.st[i] := ⟨_, rfl⟩
      rw [← hx] at c0 W0 N0
      have D0 := mapV_bd SW.out i x.key
      obtain ⟨f, hf⟩ : ∃ f, f = mapV (L.st.take i) := ⟨_, rfl⟩
      rw [← hf] at MX N0 D0
      have NX := hide N0
      obtain ⟨c, hcx⟩ : ∃ c, c = f x.key := ⟨_, rfl⟩
      have MA := hide (MX.out.alloc (.cells #[.int .i64 x.key, .int .i64 x.ts, .int .i64 x.value, .bool x.gone] 44))
      have hwk : (Lit.int .i64 x.key).wf = true := wfI (by omega)
      have LK0 := MA.out.run hwk
      rw [← hcx] at D0 LK0
      have CX := hide hcx
      have LK := hide LK0
      have WK := hide hwk
      have WC := hide (show (Lit.int .i64 (if c < x.ts then x.ts else c)).wf = true from wfI (by split <;> omega))
      unfold VAt at c0
      rw [hoa]
      have HOA := hide hoa
      clear hc hx N0 hf hcx hwk LK0 hoa
      have hi1 : (i : Int) < L.st.length := by omega
      go_wp2_with (first
        | (at_lookup; refine step_look rfl _ _ _ rfl rfl rfl LK.out ?_)
        | (at_mapUpdate; refine step_upd rfl _ _ _ rfl rfl MA.out (by omega) _ _ rfl rfl WK.out WC.out ?_; intro w1 ho hg))
      have hmx : max (f x.key) x.ts = if c < x.ts then x.ts else c := by rw [← CX.out]; split <;> omega
      have MF : MapI w1 (w.heap.size + 1) (i + 1) (mapV (L.st.take (i + 1))) := by rw [NX.out, hmx]; exact ho
      go_roundw
      case rel => rw [← HOA.out]; exact ⟨i + 1, by omega, by go_num, MF, (KX.out.alloc _).grown hg (by omega), (BX.out.alloc BX.out.size _).grown hg (by simp; omega) (fun k hk => by cases hk; omega)⟩
      case measure => simp [intOf]; omega
    · obtain rfl : i = L.st.length := by omega
      have hmv : mapV (L.st.take L.st.length) = mapV L.st := by rw [List.take_length]
      rw [hmv] at MX
      have p2 : wr.cell? ⟨w.heap.size, 2, none⟩ = some (.slice L.oa L.op.length L.oc) := KX.out.cell 2
      clear hmv
      go_wp2_with fail
      try go_step3
      try (go_wp2_with fail)
      go_loopw [32] (fun u32 wr => ∃ (i : Nat), i ≤ L.op.length ∧ u32 = .int .i64 i ∧ MapI wr (w.heap.size + 1) (4000 + 100 * i) (((txs L.op).take i).foldl mapT (mapV L.st)) ∧ Below w.heap.size w wr)
        (fun u32 _ => L.op.length - (intOf u32).toNat)
      case atStart => exact ⟨0, Nat.zero_le _, rfl, MX.out.mono (by omega), BX.out⟩
      case round =>
        clear MX KX BX p2 hlt1
        obtain ⟨i, hil, rfl, hm, hb⟩ := hrel
        have MX := hide hm
        have BX := hide hb
        have hlt1 := hm.lt
        clear hm hb
        by_cases hlt : i < L.op.length
        · obtain ⟨b, o', hoa, hb', hc⟩ := (HL.out.o.then_ BX.out).at_ hlt
          obtain ⟨c0, cw⟩ := hc i hlt
          have hi2 : i < (txs L.op).length := by rw [txs_len]; exact hlt
          have F0 := FO.out L.op[i].t (List.mem_map.2 ⟨L.op[i], List.getElem_mem _, rfl⟩)
          have hsm := (HS.out.small.each _ (List.mem_map.2 ⟨L.op[i], List.getElem_mem _, rfl⟩)).2
          have cw0 := (HL.out.o.each _ (List.getElem_mem hlt)).s
          have N0 := mapL_next (mapV L.st) (txs L.op) hi2
          rw [txs_get hlt] at N0
          obtain ⟨v, hv⟩ : ∃ v, v = L.op[i] := ⟨_, rfl⟩
          rw [← hv] at c0 cw0 F0 hsm N0
          obtain ⟨f, hf⟩ : ∃ f, f = ((txs L.op).take i).foldl mapT (mapV L.st) := ⟨_, rfl⟩
          rw [← hf] at MX N0
          have NX := hide N0
          have FX := hide F0
          have HOA := hide hoa
          have hal : Below wr.heap.size wr (wr.alloc (.cells #[.int .i64 v.t.id, .int .i64 v.t.ts, .slice v.ra v.t.reads.length v.rc, .slice v.wa v.t.writes.length v.wc] 29)) := (Below.refl _ _).alloc (Nat.le_refl _) _
          have CW := hide cw0
          have MA := hide (MX.out.alloc (.cells #[.int .i64 v.t.id, .int .i64 v.t.ts, .slice v.ra v.t.reads.length v.rc, .slice v.wa v.t.writes.length v.wc] 29))
          have KA := hide (Blk.new wr 29 #[.int .i64 v.t.id, .int .i64 v.t.ts, .slice v.ra v.t.reads.length v.rc, .slice v.wa v.t.writes.length v.wc])
          have BA := hide (BX.out.alloc BX.out.size (.cells #[.int .i64 v.t.id, .int .i64 v.t.ts, .slice v.ra v.t.reads.length v.rc, .slice v.wa v.t.writes.length v.wc] 29))
          have WT := hide (show (Lit.int .i64 v.t.ts).wf = true from wfI (by have := form_tsb F0; omega))
          unfold TxAt at c0
          rw [hoa]
          have hi1 : (i : Int) < L.op.length := by omega
          clear hoa hc cw cw0 F0 hv hf N0 hi2 hal
          go_wp2_with fail
          obtain ⟨g, hg⟩ : ∃ g, g = wr.heap.size := ⟨_, rfl⟩
          obtain ⟨W1, hW1⟩ : ∃ W1, W1 = wr.alloc (.cells #[.int .i64 v.t.id, .int .i64 v.t.ts, .slice v.ra v.t.reads.length v.rc, .slice v.wa v.t.writes.length v.wc] 29) := ⟨_, rfl⟩
          have hgs : w.heap.size + 1 < g := by omega
          have hws : W1.heap.size = g + 1 := by rw [hW1, hg]; simp
          rw [← hg] at KA
          rw [← hW1] at MA KA BA
          rw [← hg, ← hW1]
          clear hW1 hg MX BX c0 hb' hlt1
          have HWS := hide hws
          clear hws
          go_loopw [39] (fun u39 wj => ∃ (j : Nat), j ≤ v.t.writes.length ∧ u39 = .int .i64 j ∧ MapI wj (w.heap.size + 1) (4000 + 100 * i + j) ((v.t.writes.take j).foldl (fun f x => upd f x.key v.t.ts) f) ∧ Blk wj g 29 #[.int .i64 v.t.id, .int .i64 v.t.ts, .slice v.ra v.t.reads.length v.rc, .slice v.wa v.t.writes.length v.wc] ∧ Below w.heap.size w wj)
            (fun u39 _ => v.t.writes.length - (intOf u39).toNat)
          case atStart => exact ⟨0, Nat.zero_le _, rfl, MA.out, KA.out, BA.out⟩
          case round =>
            clear MA KA BA
            obtain ⟨j, hjl, rfl, hm, hk, hb⟩ := hrel
            have MX := hide hm
            have KX := hide hk
            have BX := hide hb
            have hlt1 := hm.lt
            have k1 : wr.cell? ⟨g, 1, none⟩ = some (.int .i64 v.t.ts) := hk.cell 1
            have hlt2 := hk.lt
            clear hm hk hb
            by_cases hltj : j < v.t.writes.length
            · obtain ⟨b2, o2, hwa, hb2, hc2⟩ := WrS.at_ (CW.out.then_ BX.out) hltj
              have d0 := hc2 j hltj
              have W0 := form_key FX.out hltj
              have N1 := mapT_next f v.t hltj
              obtain ⟨x, hx⟩ : ∃ x, x = v.t.writes[j] := ⟨_, rfl⟩
              rw [← hx] at d0 W0 N1
              have NJ := hide N1
              have WK := hide (show (Lit.int .i64 x.key).wf = true from wfI (by omega))
              have MJ := hide (MX.out.alloc (.cells #[.int .i64 x.key, .int .i64 x.value, .bool x.gone] 60))
              have KJ := hide (KX.out.alloc (.cells #[.int .i64 x.key, .int .i64 x.value, .bool x.gone] 60))
              have BJ := hide (BX.out.alloc BX.out.size (.cells #[.int .i64 x.key, .int .i64 x.value, .bool x.gone] 60))
              have k2 : (wr.alloc (.cells #[.int .i64 x.key, .int .i64 x.value, .bool x.gone] 60)).cell? ⟨g, 1, none⟩ = some (.int .i64 v.t.ts) := KJ.out.cell 1
              have hi3 : (j : Int) < v.t.writes.length := by omega
              have HWA := hide hwa
              unfold WrAt at d0
              rw [hwa]
              clear hwa hc2 hx N1
              go_wp2_with (at_mapUpdate; refine step_upd rfl _ _ _ rfl rfl MJ.out (by omega) _ _ rfl rfl WK.out WT.out ?_; intro w1 ho hg)
              have MF : MapI w1 (w.heap.size + 1) (4000 + 100 * i + (j + 1)) ((v.t.writes.take (j + 1)).foldl (fun f x => upd f x.key v.t.ts) f) := by rw [NJ.out]; exact ho
              go_roundw
              case rel => rw [← HWA.out]; exact ⟨j + 1, by omega, by go_num, MF, KJ.out.grown hg (by omega), BJ.out.grown hg BJ.out.size (fun k hk => by cases hk; omega)⟩
              case measure => simp [intOf]; omega
            · obtain rfl : j = v.t.writes.length := by omega
              have ME : MapI wr (w.heap.size + 1) (4000 + 100 * (i + 1)) (((txs L.op).take (i + 1)).foldl mapT (mapV L.st)) := by
                rw [NX.out]
                have := MX.out
                rw [List.take_length] at this
                exact this.mono (by omega)
              have MY := hide ME
              clear ME
              go_wp2
              go_roundw
              case rel => exact ⟨i + 1, by omega, by go_num, MY.out, BX.out⟩
              case measure => simp [intOf]; omega
        · have ME : MapI wr (w.heap.size + 1) (4000 + 100 * i) (mapL L.d) := by
            have := MX.out
            rw [List.take_of_length_le (by rw [txs_len]; omega)] at this
            exact this
          have MY := hide ME
          clear ME
          go_wp2
          try rw [Exit.noGoto_ret]
          go_ret
          exact ⟨_, _, rfl, MY.out, BX.out⟩
end Go.Proofs.Ytficjpfhakggmaa

namespace Go.Proofs.Ytficjpfhakggmaa
open Go.RowKit Go.Maps
def oldS (f : Int → Int) (s : Sn) : Bool := f s.key != s.ts
set_option maxHeartbeats 2000000 in
theorem stampF_any (g b n : Nat) (f : Int → Int) (s : Sn) (w : World) (hk : (Lit.int .i64 s.key).wf = true) (h1 : w.cell? ⟨g, 0, none⟩ = some (.map (some b))) (hm : MapI w b n f) :
    Calls Try.prog 47 #[.agg #[.int .i64 s.key, .int .i64 s.ts], .pointer (some ⟨g, 0, none⟩)] w fun e w' => e = .returned (.bool (oldS f s)) ∧ Below w.heap.size w w' := by
  have k1 : (w.alloc (.cells #[.int .i64 s.key, .int .i64 s.ts] 65)).cell? ⟨g, 0, none⟩ = some (.map (some b)) := (((Below.refl w.heap.size w).alloc (Nat.le_refl _) _).cell (p := ⟨g, 0, none⟩) (cell_lt h1)).trans h1
  have LK := hide ((hm.alloc (.cells #[.int .i64 s.key, .int .i64 s.ts] 65)).run hk)
  have h2 := cell_lt h1
  obtain ⟨c, hc⟩ : ∃ c, c = f s.key := ⟨_, rfl⟩
  rw [← hc] at LK
  have hp : oldS f s = (c != s.ts) := by rw [hc]; rfl
  rw [hp]
  clear hm hk hc hp
  go_enter Try.func47, Try.ntmps47
  go_wp2_with (at_lookup; refine step_look rfl _ _ _ rfl rfl rfl LK.out ?_)
  go_ret
  exact ⟨rfl, (Below.refl _ _).alloc (Nat.le_refl _) _⟩
set_option maxHeartbeats 2000000 in
theorem idxF_any (g b n : Nat) (f : Int → Int) (A : Option Addr) (c : Nat) (l : List Sn) (w : World) (hl : l.length ≤ 100) (hk : ∀ s ∈ l, (Lit.int .i64 s.key).wf = true) (h1 : w.cell? ⟨g, 0, none⟩ = some (.map (some b))) (hm : MapI w b n f) (h : RS Sn.cells w A l) :
    Calls Try.prog 83 #[.slice A l.length c, .func (.func 47) #[] #[.pointer (some ⟨g, 0, none⟩)]] w fun e w' => ∃ i : Int, e = .returned (.int .i64 i) ∧ decide (0 ≤ i) = l.any (oldS f) ∧ Below w.heap.size w w' := by
  have PF := hide fun (i : Nat) (hi : i < l.length) W (hb : Below w.heap.size w W) => stampF_any g b n f l[i] W (hk _ (List.getElem_mem _)) ((hb.cell (p := ⟨g, 0, none⟩) (cell_lt h1)).trans h1) (hm.below hb hm.lt)
  have HS := hide h
  clear hk h1 hm h
  go_enter Try.func83, Try.ntmps83
  go_wp2_with fail
  go_loopw [8] (fun u8 wr => ∃ i : Nat, i ≤ l.length ∧ u8 = .int .i64 i ∧ (∀ j (hj : j < l.length), j < i → oldS f l[j] = false) ∧ Below w.heap.size w wr) (fun u8 _ => l.length - (intOf u8).toNat)
  case atStart => exact ⟨0, Nat.zero_le _, rfl, fun j _ hj => by omega, Below.refl _ _⟩
  case round =>
    obtain ⟨i, hil, rfl, hall, hbr⟩ := hrel
    have HA := hide hall
    have HB := hide hbr
    clear hall hbr
    by_cases hlt : i < l.length
    · obtain ⟨b', o', rfl, hb', hc⟩ := SnS.at_ (HS.out.then_ HB.out) hlt
      have c0 := hc i hlt
      have P0 := PF.out i hlt wr HB.out
      obtain ⟨x, hx⟩ : ∃ x, x = l[i] := ⟨_, rfl⟩
      rw [← hx] at c0 P0
      have HX := hide hx
      have hi1 : (i : Int) < l.length := by omega
      unfold SnAt at c0
      clear hc hx
      cases hq : oldS f x
      all_goals
        rw [hq] at P0
        have HQ := hide hq
        have PK := hide P0
        clear hq P0
        go_wp2_with (go_at_call 47; refine PK.out.mono ?_; rintro e w1 ⟨rfl, h1⟩; have H1 := hide (thenB HB.out h1); clear h1)
      · go_roundw
        case rel => exact ⟨i + 1, by omega, by go_num, fun j h1 hj => (by rcases Nat.lt_succ_iff_lt_or_eq.1 hj with hj | rfl; exact HA.out j h1 hj; rw [← HX.out]; exact HQ.out), H1.out⟩
        case measure => simp [intOf]; omega
      · go_ret
        refine ⟨i, rfl, ?_, H1.out⟩
        rw [decide_eq_true (by omega)]
        symm
        rw [List.any_eq_true]
        exact ⟨x, by rw [HX.out]; exact List.getElem_mem _, HQ.out⟩
    · go_wp2
      go_ret
      refine ⟨-1, rfl, ?_, HB.out⟩
      rw [decide_eq_false (by omega)]
      symm
      rw [List.any_eq_false]
      intro s hs
      obtain ⟨j, hj, rfl⟩ := List.getElem_of_mem hs
      rw [HA.out j hj (by omega)]
      simp
set_option maxHeartbeats 2000000 in
theorem hasF_any (g b n : Nat) (f : Int → Int) (A : Option Addr) (c : Nat) (l : List Sn) (w : World) (hl : l.length ≤ 100) (hk : ∀ s ∈ l, (Lit.int .i64 s.key).wf = true) (h1 : w.cell? ⟨g, 0, none⟩ = some (.map (some b))) (hm : MapI w b n f) (h : RS Sn.cells w A l) :
    Calls Try.prog 46 #[.slice A l.length c, .func (.func 47) #[] #[.pointer (some ⟨g, 0, none⟩)]] w fun e w' => e = .returned (.bool (l.any (oldS f))) ∧ Below w.heap.size w w' := by
  have PF := hide (idxF_any g b n f A c l w hl hk h1 hm h)
  clear hk h1 hm h hl
  obtain ⟨r, hr⟩ : ∃ r, r = l.any (oldS f) := ⟨_, rfl⟩
  rw [← hr] at PF ⊢
  clear hr
  go_enter Try.func46, Try.ntmps46
  go_wp2_with (go_at_call 83; refine PF.out.mono ?_; rintro e w1 ⟨i, rfl, hd, h1⟩; have HD := hide hd; have H1 := hide h1; clear hd h1)
  go_ret
  exact ⟨by rw [← HD.out]; rfl, H1.out⟩
end Go.Proofs.Ytficjpfhakggmaa

namespace Go.Proofs.Ytficjpfhakggmaa
theorem mapV_at0 (k : Int) : ∀ (l : List Ver) (f : Int → Int), l.foldl (fun f v => upd f v.key (max (f v.key) v.ts)) f k = l.foldl (fun a v => if v.key = k then max a v.ts else a) (f k)
  | [], f => rfl
  | v :: l, f => by
    rw [List.foldl_cons, List.foldl_cons, mapV_at0 k l]
    congr 1
    unfold upd
    by_cases e : v.key = k
    · rw [if_pos e.symm, if_pos e, e]
    · rw [if_neg (fun h => e h.symm), if_neg e]
theorem mapV_at (l : List Ver) (k : Int) : mapV l k = newestR l k := mapV_at0 k l _
theorem mapT_at0 (k ts : Int) : ∀ (l : List Wr) (f : Int → Int), f k ≤ ts → l.foldl (fun f x => upd f x.key ts) f k = l.foldl (fun a x => if x.key = k then max a ts else a) (f k) ∧ l.foldl (fun f x => upd f x.key ts) f k ≤ ts
  | [], f, h => ⟨rfl, h⟩
  | x :: l, f, h => by
    rw [List.foldl_cons, List.foldl_cons]
    by_cases e : x.key = k
    · have h1 : upd f x.key ts k = ts := if_pos e.symm
      have h2 : max (f k) ts = ts := by omega
      rw [if_pos e, h2]
      have := mapT_at0 k ts l (upd f x.key ts) (by omega)
      rw [h1] at this
      exact this
    · have h1 : upd f x.key ts k = f k := if_neg (fun h => e h.symm)
      rw [if_neg e]
      have := mapT_at0 k ts l (upd f x.key ts) (by omega)
      rw [h1] at this
      exact this
theorem mapT_at {f : Int → Int} {t : Tx} {k : Int} (h : f k ≤ t.ts) : mapT f t k = nwTx k (f k) t ∧ mapT f t k ≤ t.ts := mapT_at0 k t.ts t.writes f h
theorem mapO_at (k : Int) : ∀ {l : List Tx} {m : Int} {f : Int → Int}, chainB m l = true → f k ≤ m → l.foldl mapT f k = l.foldl (nwTx k) (f k) ∧ l.foldl mapT f k ≤ lastTs m l
  | [], m, f, _, h => ⟨rfl, h⟩
  | t :: l, m, f, hc, h => by
    unfold chainB at hc
    rw [Bool.and_eq_true, Bool.and_eq_true, decide_eq_true_eq] at hc
    have h1 := mapT_at (f := f) (t := t) (k := k) (by omega)
    have h2 := mapO_at k (f := mapT f t) hc.2 h1.2
    rw [List.foldl_cons, List.foldl_cons, ← h1.1]
    exact h2
theorem newestR_le_max : ∀ (l : List Ver) (k a b : Int), a ≤ b → l.foldl (fun a v => if v.key = k then max a v.ts else a) a ≤ l.foldl (fun m v => max m v.ts) b
  | [], _, _, _, h => h
  | v :: l, k, a, b, h => by
    rw [List.foldl_cons, List.foldl_cons]
    refine newestR_le_max l k _ _ ?_
    split <;> omega
/-- the program's map and the reference's search find the same -/
theorem mapL_eq {L : LD} (h : leadB L.last L.st L.op = true) {k : Int} (hk : keyB k = true) : mapL L k = newestLS L k ∧ mapL L k ≤ lastTs (maxTs L.st) L.op := by
  have hv : validB L.st = true := by
    simp only [leadB, Bool.and_eq_true] at h
    exact h.1.1.1.1.1
  have hc : chainB (maxTs L.st) L.op = true := by
    simp only [leadB, Bool.and_eq_true] at h
    exact h.1.2
  unfold mapL newestLS
  have e : (newestRS L.st k).1 = mapV L.st k := by rw [mapV_at]; simp [newestRS, hv, hk]
  rw [e]
  refine mapO_at k hc ?_
  rw [mapV_at]
  exact newestR_le_max _ _ _ _ (Int.le_refl _)
/-- a transaction with a timestamp -/
def Tx.at (t : Tx) (ts : Int) : Tx := { t with ts := ts }
def stampS (L : LD) (t : Tx) (lo hi : Int) : LD × Tx × Int :=
  if !leadB L.last L.st L.op || !ivB lo hi || !formB t || t.ts != 0 then (LD.zero, Tx.zero, 1)
  else if t.reads.any (oldS (newestLS L)) then (LD.zero, Tx.zero, 60)
  else if L.op.length = 2000 ∨ 4000 < L.st.length + wlen L.op + t.writes.length then (LD.zero, Tx.zero, 2)
  else if 3000000000000000 < max (L.last + 1) hi then (LD.zero, Tx.zero, 3)
  else (⟨max (L.last + 1) hi, L.st, L.op ++ [t.at (max (L.last + 1) hi)]⟩, t.at (max (L.last + 1) hi), 0)
theorem form_rkey {t : Tx} (h : formB t = true) {i : Nat} (hi : i < t.reads.length) : keyB t.reads[i].key = true := by
  simp only [formB, Bool.and_eq_true, decide_eq_true_eq] at h
  have h1 := range_at hi h.1.1.1.1.1
  rw [rdAt_eq hi] at h1
  simp only [Bool.and_eq_true, decide_eq_true_eq] at h1
  simp only [keyB, Bool.and_eq_true, decide_eq_true_eq]
  omega
theorem form_len {t : Tx} (h : formB t = true) : t.reads.length ≤ 8 ∧ t.writes.length ≤ 8 := by
  simp only [formB, Bool.and_eq_true, decide_eq_true_eq] at h
  omega
theorem any_newest {L : LD} {t : Tx} (h : leadB L.last L.st L.op = true) (hf : formB t = true) : t.reads.any (oldS (mapL L)) = t.reads.any (oldS (newestLS L)) := by
  rw [Bool.eq_iff_iff, List.any_eq_true, List.any_eq_true]
  have e : ∀ s ∈ t.reads, oldS (mapL L) s = oldS (newestLS L) s := fun s hs => by
    obtain ⟨i, hi, rfl⟩ := List.getElem_of_mem hs
    unfold oldS
    rw [(mapL_eq h (form_rkey hf hi)).1]
  constructor
  · rintro ⟨s, hs, h1⟩; exact ⟨s, hs, by rw [← e s hs]; exact h1⟩
  · rintro ⟨s, hs, h1⟩; exact ⟨s, hs, by rw [e s hs]; exact h1⟩
theorem stamp_cases (L : LD) (t : Tx) (lo hi : Int) :
    leadB L.last L.st L.op = false ∧ stampS L t lo hi = (LD.zero, Tx.zero, 1) ∨ leadB L.last L.st L.op = true ∧ (ivB lo hi = false ∧ stampS L t lo hi = (LD.zero, Tx.zero, 1) ∨ ivB lo hi = true ∧ (formB t = false ∧ stampS L t lo hi = (LD.zero, Tx.zero, 1) ∨ formB t = true ∧ (t.ts ≠ 0 ∧ stampS L t lo hi = (LD.zero, Tx.zero, 1) ∨ t.ts = 0 ∧
      (t.reads.any (oldS (newestLS L)) = true ∧ stampS L t lo hi = (LD.zero, Tx.zero, 60) ∨ t.reads.any (oldS (newestLS L)) = false ∧ (L.op.length = 2000 ∧ stampS L t lo hi = (LD.zero, Tx.zero, 2) ∨ L.op.length ≠ 2000 ∧ (4000 < L.st.length + wlen L.op + t.writes.length ∧ stampS L t lo hi = (LD.zero, Tx.zero, 2) ∨ L.st.length + wlen L.op + t.writes.length ≤ 4000 ∧
        (3000000000000000 < max (L.last + 1) hi ∧ stampS L t lo hi = (LD.zero, Tx.zero, 3) ∨ max (L.last + 1) hi ≤ 3000000000000000 ∧ stampS L t lo hi = (⟨max (L.last + 1) hi, L.st, L.op ++ [t.at (max (L.last + 1) hi)]⟩, t.at (max (L.last + 1) hi), 0)))))))) := by
  unfold stampS
  cases h1 : leadB L.last L.st L.op
  · left; simp
  cases h2 : ivB lo hi
  · right; refine ⟨rfl, .inl ?_⟩; simp
  cases h3 : formB t
  · right; refine ⟨rfl, .inr ⟨rfl, .inl ?_⟩⟩; simp
  by_cases h4 : t.ts = 0
  · right; refine ⟨rfl, .inr ⟨rfl, .inr ⟨rfl, .inr ⟨h4, ?_⟩⟩⟩⟩
    rw [if_neg (by simp [h4])]
    cases h5 : t.reads.any (oldS (newestLS L))
    · right; refine ⟨rfl, ?_⟩
      rw [if_neg (by simp)]
      by_cases h6 : L.op.length = 2000
      · left; exact ⟨h6, by rw [if_pos (.inl h6)]⟩
      · right; refine ⟨h6, ?_⟩
        by_cases h7 : 4000 < L.st.length + wlen L.op + t.writes.length
        · left; exact ⟨h7, by rw [if_pos (.inr h7)]⟩
        · right; refine ⟨by omega, ?_⟩
          rw [if_neg (by omega)]
          by_cases h8 : 3000000000000000 < max (L.last + 1) hi
          · left; exact ⟨h8, by rw [if_pos h8]⟩
          · right; exact ⟨by omega, by rw [if_neg h8]⟩
    · left; exact ⟨rfl, by simp⟩
  · right; refine ⟨rfl, .inr ⟨rfl, .inr ⟨rfl, .inl ⟨h4, ?_⟩⟩⟩⟩; simp [h4]
end Go.Proofs.Ytficjpfhakggmaa
