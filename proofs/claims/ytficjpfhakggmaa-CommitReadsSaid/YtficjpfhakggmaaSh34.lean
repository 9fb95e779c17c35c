/-
  The walk of commit.Show.
-/
import Derived.Test.YtficjpfhakggmaaSl34
import Derived.Test.YtficjpfhakggmaaRe34
import Derived.Test.YtficjpfhakggmaaClV
namespace Go.Proofs.Ytficjpfhakggmaa
open Go.RowKit
/-- a leader as plain data -/
structure LD where
  last : Int
  st : List Ver
  op : List Tx
  deriving DecidableEq
def LD.zero : LD := ⟨0, [], []⟩
def LdV.d (L : LdV) : LD := ⟨L.last, L.st, txs L.op⟩
def LdV.agg (L : LdV) : Value := .agg #[.int .i64 L.last, .slice L.sa L.st.length L.sc, .slice L.oa L.op.length L.oc]
def LdV.zero : LdV := ⟨0, none, 0, [], none, 0, []⟩
theorem LdW.zero (w : World) : LdW w LdV.zero := ⟨Rd.nil _ _, TS.nil, Nat.le_refl _, by simp [LdV.zero, maxLen], Nat.le_refl _, by simp [LdV.zero, maxLen]⟩
def showS (L : LD) (lo hi : Int) : LD × List Tx × Int :=
  if !leadB L.last L.st L.op || !ivB lo hi then (LD.zero, [], 1) else (⟨L.last, stAt L.st L.op (pastN L.op lo) 0, L.op.drop (pastN L.op lo)⟩, L.op.take (pastN L.op lo), 0)
def RetLTE (w : World) (r : LD × List Tx × Int) (e : Ending) (w' : World) : Prop :=
  ∃ (M : LdV) (A : Option Addr) (c : Nat) (l : List TxV), e = .returned (.tuple #[M.agg, .slice A l.length c, .int .i64 r.2.2]) ∧ M.d = r.1 ∧ txs l = r.2.1 ∧ LdW w' M ∧ TS w' A l ∧ l.length ≤ c ∧ c ≤ maxLen ∧ Below w.heap.size w w'
theorem sh_keep {w w' : World} {t u z : TypeId} {L : LdV} {lo hi : Int} (hb : Below (((w.alloc (.cells #[.int .i64 L.last, .slice L.sa L.st.length L.sc, .slice L.oa L.op.length L.oc] t)).alloc (.cells #[.int .i64 lo, .int .i64 hi] u)).alloc (.cells #[.int .i64 0, .slice none 0 0, .slice none 0 0] z)).heap.size (((w.alloc (.cells #[.int .i64 L.last, .slice L.sa L.st.length L.sc, .slice L.oa L.op.length L.oc] t)).alloc (.cells #[.int .i64 lo, .int .i64 hi] u)).alloc (.cells #[.int .i64 0, .slice none 0 0, .slice none 0 0] z)) w') :
    LdAt w' w.heap.size L.last (.slice L.sa L.st.length L.sc) (.slice L.oa L.op.length L.oc) ∧ w'.cell? ⟨w.heap.size + 1, 0, none⟩ = some (.int .i64 lo) ∧ w'.cell? ⟨w.heap.size + 1, 1, none⟩ = some (.int .i64 hi) ∧ Below w.heap.size w w' ∧ Blk w' (w.heap.size + 2) z #[.int .i64 0, .slice none 0 0, .slice none 0 0] := by
  obtain ⟨a1, a2, a3, a4⟩ := @ld_keep w w' t u L lo hi (((Below.refl _ _).alloc (Nat.le_refl _) _).trans (hb.mono (by simp)))
  refine ⟨a1, a2, a3, a4, ?_⟩
  have h := (Blk.new ((w.alloc (.cells #[.int .i64 L.last, .slice L.sa L.st.length L.sc, .slice L.oa L.op.length L.oc] t)).alloc (.cells #[.int .i64 lo, .int .i64 hi] u)) z #[.int .i64 0, .slice none 0 0, .slice none 0 0]).below hb (by simp)
  simpa using h
theorem stAt_next' {last : Int} {st : List Ver} {op : List Tx} (h : leadB last st op = true) {i : Nat} {t : Tx} (ht : op[i]? = some t) {j : Nat} (hj : j < (verT t).length) :
    putS (stAt st op i j) (verT t)[j] = (stAt st op i (j + 1), 0) := by
  obtain ⟨hi, rfl⟩ := List.getElem?_eq_some_iff.1 ht
  exact stAt_next h hi hj
theorem stAt_full' {st : List Ver} {op : List Tx} {i : Nat} {t : Tx} (ht : op[i]? = some t) : stAt st op i (verT t).length = stAt st op (i + 1) 0 := by
  obtain ⟨hi, rfl⟩ := List.getElem?_eq_some_iff.1 ht
  exact stAt_full hi
theorem set3 {w w' : World} {g : Nat} {a b c : Value} (hb : Below w.heap.size w w') (hg : w.heap.size ≤ g) : Below w.heap.size w (((w'.setCell ⟨g, 0, none⟩ a).setCell ⟨g, 1, none⟩ b).setCell ⟨g, 2, none⟩ c) :=
  ((hb.setCell (p := ⟨g, 0, none⟩) hg _).setCell (p := ⟨g, 1, none⟩) hg _).setCell (p := ⟨g, 2, none⟩) hg _
theorem TS.cut {w : World} {A : Option Addr} {l : List TxV} {c i : Nat} (h : TS w A l) (hc : l.length ≤ c) : TS w (if c = i then A else Option.map (fun x => x.add (i * 4)) A) (l.drop i) := by
  by_cases hi : i < l.length
  · obtain ⟨b, o, rfl, _⟩ := h.at_ (k := i) hi
    rw [if_neg (show ¬c = i by omega)]
    rw [Option.map_some, addr_add]
    exact TS.shift (i := i) (o := o) h (by omega)
  · rw [List.drop_eq_nil_of_le (by omega)]
    exact TS.nil
theorem txs_drop (l : List TxV) (i : Nat) : txs (l.drop i) = (txs l).drop i := by simp [txs]
theorem Small.suf {l : List Tx} (h : Small l) (k : Nat) : Small (l.drop k) := ⟨by have := h.len; simp; omega, fun t ht => h.each t (List.mem_of_mem_drop ht)⟩
theorem copies_suf (L : LdV) (i : Nat) (W : World) (hs : LdS L) (hc : L.op.length ≤ L.oc) (h : TS W L.oa L.op) :
    Calls Try.prog 51 #[.slice (if L.oc = i then L.oa else Option.map (fun x => x.add (i * 4)) L.oa) (L.op.length - i) (L.oc - i)] W
      fun e w' => ∃ A' c' l', e = .returned (.slice A' (L.op.length - i) c') ∧ Below W.heap.size W w' ∧ l'.length = L.op.length - i ∧ L.op.length - i ≤ c' ∧ c' ≤ maxLen ∧ txs l' = (txs L.op).drop i ∧ TS w' A' l' := by
  have e : L.op.length - i = (L.op.drop i).length := by simp
  rw [e, ← txs_drop]
  exact copies_any _ _ (L.op.drop i) W (by rw [txs_drop]; exact hs.small.suf i) (h.cut hc)
theorem copies_pre (L : LdV) (i : Nat) (W : World) (hs : LdS L) (hi : i ≤ L.op.length) (h : TS W L.oa L.op) :
    Calls Try.prog 51 #[.slice L.oa i L.oc] W
      fun e w' => ∃ A' c' l', e = .returned (.slice A' i c') ∧ Below W.heap.size W w' ∧ l'.length = i ∧ i ≤ c' ∧ c' ≤ maxLen ∧ txs l' = (txs L.op).take i ∧ TS w' A' l' := by
  have e : i = (L.op.take i).length := by simp; omega
  have e2 : txs (L.op.take i) = (txs L.op).take i := by simp [txs]
  rw [← e2]
  have h2 := copies_any L.oa L.oc (L.op.take i) W (by rw [e2]; exact hs.small.pre i) (h.pre i)
  rw [← e] at h2
  exact h2
theorem Rd.off {w W : World} {A : Option Addr} {cs : List Value} {g : Nat} {t : TypeId} {a : Value} {p q : Option Addr} {m n m' n' : Nat} (h : Rd w A cs) (hb : Blk w g t #[a, .slice p m n, .slice q m' n']) (hc : cs ≠ [] → ∃ i, cs[1]? = some (.int .i64 i))
    (hs : w.heap.size ≤ W.heap.size) (hk : ∀ k, k ≠ g → W.heap[k]? = w.heap[k]?) : Rd W A cs := fun hne => by
  obtain ⟨b, o, rfl, hlt, hce⟩ := h hne
  obtain ⟨i, hi⟩ := hc hne
  have hbg : b ≠ g := by
    rintro rfl
    have h1 := hce 1 _ hi
    rw [hb.cell] at h1
    match o, h1 with
    | 0, h1 => simp at h1
    | 1, h1 => simp at h1
    | o + 2, h1 => simp at h1
  exact ⟨b, o, rfl, by omega, fun j u hu => (World.cell?_of_block (a := ⟨b, o + j, none⟩) (hk b hbg)).trans (hce j u hu)⟩
theorem TS.off {w W : World} {A : Option Addr} {l : List TxV} {g : Nat} {t : TypeId} {a : Value} {p q : Option Addr} {m n m' n' : Nat} (h : TS w A l) (hb : Blk w g t #[a, .slice p m n, .slice q m' n'])
    (hs : w.heap.size ≤ W.heap.size) (hk : ∀ k, k ≠ g → W.heap[k]? = w.heap[k]?) : TS W A l := by
  refine ⟨Rd.off h.row hb (fun hne => ?_) hs hk, fun v hv => ?_⟩
  · cases l with
    | nil => exact absurd rfl hne
    | cons x l => exact ⟨_, rfl⟩
  · have hv := h.each v hv
    refine ⟨Rd.off hv.r hb (fun hne => ?_) hs hk, Rd.off hv.s hb (fun hne => ?_) hs hk, hv.rl, hv.rm, hv.wl, hv.wm⟩
    · obtain ⟨⟨_, _, rd, _⟩, _⟩ := v
      cases rd with
      | nil => exact absurd rfl hne
      | cons x l => exact ⟨_, rfl⟩
    · obtain ⟨⟨_, _, _, wt⟩, _⟩ := v
      cases wt with
      | nil => exact absurd rfl hne
      | cons x l => exact ⟨_, rfl⟩
theorem VS.off {w W : World} {A : Option Addr} {l : List Ver} {g : Nat} {t : TypeId} {a : Value} {p q : Option Addr} {m n m' n' : Nat} (h : VS w A l) (hb : Blk w g t #[a, .slice p m n, .slice q m' n'])
    (hs : w.heap.size ≤ W.heap.size) (hk : ∀ k, k ≠ g → W.heap[k]? = w.heap[k]?) : VS W A l := by
  refine Rd.off h hb (fun hne => ?_) hs hk
  cases l with
  | nil => exact absurd rfl hne
  | cons x l => exact ⟨_, rfl⟩
theorem set3_far (w : World) (g : Nat) (a b c : Value) : w.heap.size ≤ (((w.setCell ⟨g, 0, none⟩ a).setCell ⟨g, 1, none⟩ b).setCell ⟨g, 2, none⟩ c).heap.size ∧ ∀ k, k ≠ g → (((w.setCell ⟨g, 0, none⟩ a).setCell ⟨g, 1, none⟩ b).setCell ⟨g, 2, none⟩ c).heap[k]? = w.heap[k]? :=
  ⟨by simp [World.setCell], fun k hk => (Below.heap_setCell _ ⟨g, 2, none⟩ c k hk).trans ((Below.heap_setCell _ ⟨g, 1, none⟩ b k hk).trans (Below.heap_setCell _ ⟨g, 0, none⟩ a k hk))⟩
section
variable {w W W' : World} {g : Nat} {a b : Value}
theorem hk_drew (h : Below w.heap.size w W ∧ W.cell? ⟨g, 0, none⟩ = some a ∧ W.cell? ⟨g, 2, none⟩ = some b) : Below w.heap.size w W.drew ∧ W.drew.cell? ⟨g, 0, none⟩ = some a ∧ W.drew.cell? ⟨g, 2, none⟩ = some b := ⟨h.1.drew, h.2.1, h.2.2⟩
theorem hk_call (hb : Below W.heap.size W W') (h : Below w.heap.size w W ∧ W.cell? ⟨g, 0, none⟩ = some a ∧ W.cell? ⟨g, 2, none⟩ = some b) : Below w.heap.size w W' ∧ W'.cell? ⟨g, 0, none⟩ = some a ∧ W'.cell? ⟨g, 2, none⟩ = some b :=
  ⟨thenB h.1 hb, (hb.cell (p := ⟨g, 0, none⟩) (cell_lt h.2.1)).trans h.2.1, (hb.cell (p := ⟨g, 2, none⟩) (cell_lt h.2.2)).trans h.2.2⟩
theorem hk_set {x y z : Value} (h : Below w.heap.size w W ∧ W.cell? ⟨w.heap.size, 0, none⟩ = some a ∧ W.cell? ⟨w.heap.size, 2, none⟩ = some b) :
    Below w.heap.size w (((W.setCell ⟨w.heap.size + 1 + 1, 0, none⟩ x).setCell ⟨w.heap.size + 1 + 1, 1, none⟩ y).setCell ⟨w.heap.size + 1 + 1, 2, none⟩ z) ∧ (((W.setCell ⟨w.heap.size + 1 + 1, 0, none⟩ x).setCell ⟨w.heap.size + 1 + 1, 1, none⟩ y).setCell ⟨w.heap.size + 1 + 1, 2, none⟩ z).cell? ⟨w.heap.size, 0, none⟩ = some a ∧ (((W.setCell ⟨w.heap.size + 1 + 1, 0, none⟩ x).setCell ⟨w.heap.size + 1 + 1, 1, none⟩ y).setCell ⟨w.heap.size + 1 + 1, 2, none⟩ z).cell? ⟨w.heap.size, 2, none⟩ = some b := by
  have hf := (set3_far W (w.heap.size + 1 + 1) x y z).2 w.heap.size (by omega)
  exact ⟨set3 h.1 (by omega), (World.cell?_of_block (a := ⟨w.heap.size, 0, none⟩) hf).trans h.2.1, (World.cell?_of_block (a := ⟨w.heap.size, 2, none⟩) hf).trans h.2.2⟩
end
set_option maxHeartbeats 16000000 in
set_option maxRecDepth 100000 in
theorem show_any (L : LdV) (lo hi : Int) (w : World) (hs : LdS L) (h : LdW w L) :
    Calls Try.prog 20 #[.agg #[.int .i64 L.last, .slice L.sa L.st.length L.sc, .slice L.oa L.op.length L.oc], .agg #[.int .i64 lo, .int .i64 hi]] w (RetLTE w (showS L.d lo hi)) := by
  have V := hide fun W (s : LdW W L) => lv_any L W hs s
  have I := hide fun W => iv_any lo hi W
  have HL := hide h
  have HS := hide hs
  have b3 := hide (((((Below.refl w.heap.size w).alloc (Nat.le_refl _) (.cells #[.int .i64 L.last, .slice L.sa L.st.length L.sc, .slice L.oa L.op.length L.oc] 25)).alloc (by simp) (.cells #[.int .i64 lo, .int .i64 hi] 31)).alloc (by simp; omega) (.cells #[.int .i64 0, .slice none 0 0, .slice none 0 0] 25)))
  have K := hide fun W hb => @sh_keep w W 25 31 25 L lo hi hb
  have RC : L.ok = false ∧ showS L.d lo hi = (LD.zero, [], 1) ∨ L.ok = true ∧ (ivB lo hi = false ∧ showS L.d lo hi = (LD.zero, [], 1) ∨ ivB lo hi = true ∧ showS L.d lo hi = (⟨L.last, stAt L.st (txs L.op) (pastN (txs L.op) lo) 0, (txs L.op).drop (pastN (txs L.op) lo)⟩, (txs L.op).take (pastN (txs L.op) lo), 0)) := by
    have e : leadB L.d.last L.d.st L.d.op = L.ok := rfl
    unfold showS
    rw [e]
    cases L.ok <;> cases ivB lo hi <;> simp [LdV.d]
  unfold RetLTE
  clear h hs
  rcases RC with ⟨q1, hr⟩ | ⟨q1, ⟨q2, hr⟩ | ⟨q2, hr⟩⟩
  · have HP := hide hr
    rw [q1] at V
    clear hr
    go_enter Try.func20, Try.ntmps20
    go_wp2_with (first
      | (go_at_call 16; refine (V.out _ (HL.out.then_ b3.out)).mono ?_; rintro e w1 ⟨rfl, hb⟩; obtain ⟨k1, k2, k3, k4, kq⟩ := K.out _ hb; have HB := hide hb; clear hb; have kc := kq.cell; have kf := kq.frozen; unfold LdAt at k1))
    refine bodyPost_ret (results_blk3 rfl _ _ (w.heap.size + 2) 25 _ _ rfl (((kq.set_ 0 _).set_ 1 _).set_ 2 _) Try.underlying25 rfl (by kernel_rfl)) rfl ⟨LdV.zero, none, 0, [], by rw [HP.out]; rfl, by rw [HP.out]; rfl, by rw [HP.out]; rfl, LdW.zero _, TS.nil, Nat.le_refl _, by simp [maxLen], set3 k4 (by omega)⟩
  · have HP := hide hr
    rw [q1] at V
    rw [q2] at I
    clear hr
    go_enter Try.func20, Try.ntmps20
    go_wp2_with (first
      | (go_at_call 16; refine (V.out _ (HL.out.then_ b3.out)).mono ?_; rintro e w1 ⟨rfl, hb⟩; obtain ⟨k1, k2, k3, k4, kq⟩ := K.out _ hb; have HB := hide hb; clear hb; have kc := kq.cell; have kf := kq.frozen; unfold LdAt at k1)
      | (go_at_call 43; refine (I.out _).mono ?_; rintro e w2 ⟨rfl, hb⟩; clear k1 k2 k3 k4 kc kf kq; obtain ⟨k1, k2, k3, k4, kq⟩ := K.out _ (HB.out.trans (hb.mono HB.out.size)); have hb2 := HB.out.trans (hb.mono HB.out.size); clear HB hb; have HB := hide hb2; clear hb2; have kc := kq.cell; have kf := kq.frozen; unfold LdAt at k1))
    refine bodyPost_ret (results_blk3 rfl _ _ (w.heap.size + 2) 25 _ _ rfl (((kq.set_ 0 _).set_ 1 _).set_ 2 _) Try.underlying25 rfl (by kernel_rfl)) rfl ⟨LdV.zero, none, 0, [], by rw [HP.out]; rfl, by rw [HP.out]; rfl, by rw [HP.out]; rfl, LdW.zero _, TS.nil, Nat.le_refl _, by simp [maxLen], set3 k4 (by omega)⟩
  · have HP := hide hr
    rw [q1] at V
    rw [q2] at I
    have PT := hide fun W (s : LdW W L) => pastL_any L lo W q1 s
    have hple := pastN_le (txs L.op) lo
    rw [txs_len] at hple
    have q1' : leadB L.last L.st (txs L.op) = true := q1
    have STN := hide fun (i : Nat) (t : Tx) (ht : (txs L.op)[i]? = some t) (j : Nat) (hj : j < (verT t).length) => stAt_next' q1' ht hj
    have STL := hide fun (i j : Nat) (hi : i < (txs L.op).length) => stAt_len q1' (i := i) (j := j) hi
    obtain ⟨N, hN⟩ : ∃ N, N = pastN (txs L.op) lo := ⟨_, rfl⟩
    rw [← hN] at PT hple HP
    have hlo := (ok_chain q1).2
    have hst := (lead_adds q1').1.len
    have hNc : N ≤ L.oc := Nat.le_trans hple HL.out.ol
    have hom := HL.out.om
    simp only [maxLen] at hom
    clear hN q1 q1' hr
    have CL := hide fun W (s : VS W L.sa L.st) => cloneV_any L.sa L.sc L.st W (by omega) s
    go_enter Try.func20, Try.ntmps20
    go_wp2_with (first
      | (go_at_call 16; refine (V.out _ (HL.out.then_ b3.out)).mono ?_; rintro e w1 ⟨rfl, hb⟩; obtain ⟨k1, k2, k3, k4, kq⟩ := K.out _ hb; have HB := hide hb; clear hb; have kc := kq.cell; have kf := kq.frozen; unfold LdAt at k1)
      | (go_at_call 43; refine (I.out _).mono ?_; rintro e w2 ⟨rfl, hb⟩; clear k1 k2 k3 k4 kc kf kq; obtain ⟨k1, k2, k3, k4, kq⟩ := K.out _ (HB.out.trans (hb.mono HB.out.size)); have hb2 := HB.out.trans (hb.mono HB.out.size); clear HB hb; have HB := hide hb2; clear hb2; have kc := kq.cell; have kf := kq.frozen; unfold LdAt at k1)
      | (go_at_call 58; refine (PT.out _ (HL.out.then_ k4)).mono ?_; rintro e w4 ⟨rfl, hb⟩; clear k1 k2 k3 k4 kc kf kq; obtain ⟨k1, k2, k3, k4, kq⟩ := K.out _ (HB.out.trans (hb.mono HB.out.size)); have hb2 := HB.out.trans (hb.mono HB.out.size); clear HB hb; have HB := hide hb2; clear hb2; have kc := kq.cell; have kf := kq.frozen; unfold LdAt at k1)
      | (go_at_call 50; refine (CL.out _ (HL.out.s.then_ k4)).mono ?_; rintro e w5 ⟨v5, rfl, o5, hb⟩; obtain ⟨A5, c5, rfl, l5, m5, s5⟩ := o5.form; have S5 := hide s5; clear o5 s5; clear k1 k2 k3 k4 kc kf kq; obtain ⟨k1, k2, k3, k4, kq⟩ := K.out _ (HB.out.trans (hb.mono HB.out.size)); have hb2 := HB.out.trans (hb.mono HB.out.size); clear HB hb; have HB := hide hb2; clear hb2; have kc := kq.cell; have kf := kq.frozen; unfold LdAt at k1))
    have HB5 := hide k4
    obtain ⟨k10, k11, k12⟩ := k1
    have K0 := hide k10
    have K1 := hide k11
    have K2 := hide k12
    have KQ := hide kq
    clear k10 k11 k12 k2 k3 k4 kc kf kq
    go_loopw [8, 36] (fun u8 u36 wr => ∃ (i : Nat) (A8 : Option Addr) (c8 : Nat), i ≤ N ∧ u36 = .int .i64 i ∧ u8 = .slice A8 (stAt L.st (txs L.op) i 0).length c8 ∧ (stAt L.st (txs L.op) i 0).length ≤ c8 ∧ c8 ≤ maxLen ∧ VS wr A8 (stAt L.st (txs L.op) i 0) ∧ Below w5.heap.size w5 wr)
      (fun _ u36 _ => N - (intOf u36).toNat)
    case atStart => exact ⟨0, A5, c5, Nat.zero_le _, rfl, rfl, l5, m5, S5.out, Below.refl _ _⟩
    case round =>
      obtain ⟨i, A8, c8, hiN, rfl, rfl, h8, m8, s8, hbr⟩ := hrel
      have S8 := hide s8
      have HR := hide hbr
      clear s8 hbr
      by_cases hlt : i < N
      · have hlt2 : i < L.op.length := by omega
        have ht := (HL.out.o.then_ HB5.out).then_ HR.out
        obtain ⟨b, o', hoa, hb', hc⟩ := ht.at_ hlt2
        obtain ⟨c0, cw⟩ := hc i hlt2
        have hsm := HS.out.small.each _ (List.mem_map.2 ⟨L.op[i], List.getElem_mem _, rfl⟩)
        have CW := hide cw
        have hi2 : i < (txs L.op).length := by rw [txs_len]; exact hlt2
        have hgi : (txs L.op)[i]? = some L.op[i].t := by rw [List.getElem?_eq_getElem hi2, txs_get hlt2]
        obtain ⟨li, hli⟩ : ∃ li, li = L.op[i] := ⟨_, rfl⟩
        rw [← hli] at c0 CW hsm hgi
        have VR := hide fun W (s : TxW W li) => vers_any li W hsm.2 s
        have SN := hide (STN.out i li.t hgi)
        have SF := hide (stAt_full' (st := L.st) hgi)
        have SL := hide fun j => STL.out i j hi2
        have hsm2 := hsm.2
        have hvl := verT_len li.t
        have HVL := hide (show (verT li.t).length ≤ 100 by omega)
        have HOA := hide hoa
        clear hc ht cw hsm hli hgi hvl hi2
        rw [hoa]
        unfold TxAt at c0
        have hb1 : Below wr.heap.size wr (wr.alloc (.cells #[.int .i64 li.t.id, .int .i64 li.t.ts, .slice li.ra li.t.reads.length li.rc, .slice li.wa li.t.writes.length li.wc] 29)) := (Below.refl _ _).alloc (Nat.le_refl _) _
        have B1 := hide hb1
        clear hb1
        go_wp2_with (go_at_call 59; refine (VR.out _ (CW.out.then_ B1.out)).mono ?_; rintro e w6 ⟨A6, c6, rfl, hb6, h6, m6, s6⟩; have B6 := hide (thenB B1.out hb6); have S6 := hide s6; clear hb6 s6)
        go_loopw [8, 44] (fun u8 u44 wj => ∃ (j : Nat) (A8 : Option Addr) (c8 : Nat), j ≤ (verT li.t).length ∧ u44 = .int .i64 j ∧ u8 = .slice A8 (stAt L.st (txs L.op) i j).length c8 ∧ (stAt L.st (txs L.op) i j).length ≤ c8 ∧ c8 ≤ maxLen ∧ VS wj A8 (stAt L.st (txs L.op) i j) ∧ Below w6.heap.size w6 wj)
          (fun _ u44 _ => (verT li.t).length - (intOf u44).toNat)
        case atStart => exact ⟨0, A8, c8, Nat.zero_le _, rfl, rfl, h8, m8, S8.out.then_ B6.out, Below.refl _ _⟩
        case round =>
          obtain ⟨j, A9, c9, hjN, rfl, rfl, h9, m9, s9, hbj⟩ := hrel
          have S9 := hide s9
          have HJ := hide hbj
          clear s9 hbj
          have hv100 := HVL.out
          by_cases hltj : j < (verT li.t).length
          · obtain ⟨b2, o2, rfl, hb2, hc2⟩ := (S6.out.then_ HJ.out).at_ hltj
            have d0 := hc2 j hltj
            have hsn := SN.out j hltj
            obtain ⟨x, hx⟩ : ∃ x, x = (verT li.t)[j] := ⟨_, rfl⟩
            rw [← hx] at d0 hsn
            obtain ⟨s1, hs1⟩ : ∃ s, s = stAt L.st (txs L.op) i (j + 1) := ⟨_, rfl⟩
            obtain ⟨s0, hs0⟩ : ∃ s, s = stAt L.st (txs L.op) i j := ⟨_, rfl⟩
            have hl0 := SL.out j
            rw [← hs1, ← hs0] at hsn
            rw [← hs0] at S9 hl0 h9 ⊢
            have PJ0 := fun W (s : VS W A9 s0) => put_any A9 c9 s0 x W (by omega) s
            rw [hsn] at PJ0
            have PJ := hide PJ0
            have H1 := hide hs1
            have H0 := hide hs0
            unfold VAt at d0
            clear hc2 hsn hx hs1 hs0 PJ0
            go_upto_region 11 with fail
            have hbx : Below wr.heap.size wr (wr.alloc (.cells #[.int .i64 x.key, .int .i64 x.ts, .int .i64 x.value, .bool x.gone] 44)) := (Below.refl _ _).alloc (Nat.le_refl _) _
            have BX := hide hbx
            clear hbx
            go_wp2_with (go_at_call 60; refine (PJ.out _ (S9.out.then_ BX.out)).mono ?_; rintro e w7 ⟨A7, c7, rfl, h7, m7, s7, hb7⟩; dsimp only at h7 s7 ⊢; have B7 := hide (thenB BX.out hb7); have S7 := hide s7; clear hb7 s7)
            go_roundw
            case rel => exact ⟨j + 1, A7, c7, by omega, rfl, by rw [← H1.out], by rw [← H1.out]; exact h7, m7, by rw [← H1.out]; exact S7.out, thenB HJ.out B7.out⟩
            case measure => simp [intOf]; omega
          · obtain rfl : j = (verT li.t).length := by omega
            rw [SF.out] at S9 h9 ⊢
            obtain ⟨s1, hs1⟩ : ∃ s, s = stAt L.st (txs L.op) (i + 1) 0 := ⟨_, rfl⟩
            rw [← hs1] at S9 h9 ⊢
            have H1 := hide hs1
            clear hs1
            go_wp2
            go_roundw
            case rel => exact ⟨i + 1, A9, c9, by omega, rfl, by rw [← H1.out], by rw [← H1.out]; exact h9, m9, by rw [← H1.out]; exact S9.out, thenB HR.out (thenB B6.out HJ.out)⟩
            case measure => simp [intOf]; omega
      · obtain rfl : i = N := by omega
        obtain ⟨s1, hs1⟩ : ∃ s, s = stAt L.st (txs L.op) i 0 := ⟨_, rfl⟩
        rw [← hs1] at S8 h8 HP ⊢
        clear hs1
        have sl10 := fun W => slice_suf L.oa L.op.length L.oc i W hple HL.out.ol
        have sl20 := fun W => sliceAt_suf L.oa L.op.length L.oc i W hple HL.out.ol
        have C10 := fun W (s : TS W L.oa L.op) => copies_suf L i W HS.out HL.out.ol s
        obtain ⟨A1, hA1⟩ : ∃ A1, A1 = (if L.oc = i then L.oa else Option.map (fun x => x.add (i * 4)) L.oa) := ⟨_, rfl⟩
        rw [← hA1] at sl10 sl20 C10
        have C1 := hide C10
        clear C10 hA1
        have C2 := hide fun W (s : TS W L.oa L.op) => copies_pre L i W HS.out hple s
        have k0 := (HR.out.cell (p := ⟨w.heap.size, 0, none⟩) (by show w.heap.size < w5.heap.size; have := KQ.out.lt; omega)).trans K0.out
        have k2 := (HR.out.cell (p := ⟨w.heap.size, 2, none⟩) (by show w.heap.size < w5.heap.size; have := KQ.out.lt; omega)).trans K2.out
        have KR := hide (KQ.out.below HR.out KQ.out.lt)
        have hsr : w.heap.size + 2 < wr.heap.size := KR.out.lt
        have TO := hide ((HL.out.o.then_ HB5.out).then_ HR.out)
        have b17 := hide (thenB HB5.out HR.out)
        go_upto_region 17 with fail
        have h00 : Below w.heap.size w wr ∧ wr.cell? ⟨w.heap.size, 0, none⟩ = some (.int .i64 L.last) ∧ wr.cell? ⟨w.heap.size, 2, none⟩ = some (.slice L.oa L.op.length L.oc) := ⟨b17.out, k0, k2⟩
        have H00 := hide h00
        clear h00
        go_region_held3 (fun w' => Below w.heap.size w w' ∧ w'.cell? ⟨w.heap.size, 0, none⟩ = some (.int .i64 L.last) ∧ w'.cell? ⟨w.heap.size, 2, none⟩ = some (.slice L.oa L.op.length L.oc))
          (first | exact H00.out | exact hk_drew H00.out | exact hk_drew (by assumption) | exact hk_call (by assumption) (by assumption) | exact hk_set (by assumption))
          (first
            | (go_at_call 51; with_reducible refine (C1.out _ (HL.out.o.then_ (And.left (by assumption)))).mono ?_; rintro e w6 ⟨A6, c6, t6, rfl, hb6, l6, h6, m6, e6, s6⟩; have hs6 := hb6.size; (repeat (first | simp only [World.size_alloc] at hs6 | simp only [heap_drew] at hs6)); have T6 := hide s6; have E6 := hide e6; clear s6 e6)
            | (go_at_call 51; with_reducible refine (C2.out _ (HL.out.o.then_ (And.left (by assumption)))).mono ?_; rintro e w7 ⟨A7, c7, t7, rfl, hb7, l7, h7, m7, e7, s7⟩; have hs7 := hb7.size; (repeat (first | simp only [World.size_alloc] at hs7 | simp only [heap_drew] at hs7)); have T7 := hide s7; have E7 := hide e7; clear s7 e7; have hq : Below wr.heap.size wr w7 := (by (repeat (first | exact Below.refl _ _ | (refine Below.drew ?_) | (refine Below.alloc ?_ (by (first | ((repeat (first | simp only [World.size_alloc] | simp only [heap_drew])); omega) | omega | (simp; omega))) _) | (refine Below.trans ?_ (Below.mono (by assumption) (by (first | ((repeat (first | simp only [World.size_alloc] | simp only [heap_drew])); omega) | omega | (simp; omega)))))))); have kq := KR.out.below hq KR.out.lt; have kc := kq.cell; have kf := kq.frozen))
        have hf := set3_far w7 (w.heap.size + 1 + 1) (.int .i64 L.last) (.slice A8 s1.length c8) (.slice A6 (L.op.length - i) c6)
        have hB7 : Below w.heap.size w w7 := thenB b17.out hq
        have G8 := hide (VS.off (S8.out.then_ hq) kq hf.1 hf.2)
        have G6 := hide (TS.off (T6.out.then_ hb7) kq hf.1 hf.2)
        have G7 := hide (TS.off T7.out kq hf.1 hf.2)
        have GB := hide (set3 (a := .int .i64 L.last) (b := .slice A8 s1.length c8) (c := .slice A6 (L.op.length - i) c6) hB7 (show w.heap.size ≤ w.heap.size + 1 + 1 by omega))
        have GQ := hide (((kq.set_ 0 (.int .i64 L.last)).set_ 1 (.slice A8 s1.length c8)).set_ 2 (.slice A6 (L.op.length - i) c6))
        clear hf hB7 kc kf
        go_wp2
        refine bodyPost_ret (results_blk3 rfl _ _ (w.heap.size + 2) 25 _ _ rfl GQ.out Try.underlying25 rfl (by kernel_rfl)) rfl ⟨⟨L.last, A8, c8, s1, A6, c6, t6⟩, A7, c7, t7, ?_, ?_, ?_, ⟨G8.out, G6.out, h8, m8, ?_, m6⟩, G7.out, ?_, m7, GB.out⟩
        · rw [HP.out]; simp only [LdV.agg, l6, l7]; rfl
        · rw [HP.out]; simp only [LdV.d, E6.out]
        · rw [HP.out]; exact E7.out
        · dsimp only; omega
        · omega
end Go.Proofs.Ytficjpfhakggmaa
