/-
  The walks of Read, of package commit and of its reference implementation.
-/
import Derived.Test.YtficjpfhakggmaaPa34
import Derived.Test.YtficjpfhakggmaaPl33w
namespace Go.Proofs.Ytficjpfhakggmaa
open Go.RowKit
def waitB (L : LdV) (ts lo : Int) : Bool := decide (0 < pastN (txs L.op) (ts + 1)) || (decide (L.last < ts) && decide (lo ≤ ts))
def readLS (L : LdV) (key ts lo hi : Int) : Ver × Bool × Int :=
  if !L.ok || !ivB lo hi || !btw key 1 1000 || !btw ts 1 3000000000000000 then (Ver.zero, false, 1) else if waitB L ts lo then (Ver.zero, false, 61) else atS L.st key ts
/-- the blocks of a leader and of an interval that were handed over, and of a result -/
theorem rd_keep {w w' : World} {t u z : TypeId} {L : LdV} {lo hi : Int} (hb : Below (((w.alloc (.cells #[.int .i64 L.last, .slice L.sa L.st.length L.sc, .slice L.oa L.op.length L.oc] t)).alloc (.cells #[.int .i64 lo, .int .i64 hi] u)).alloc (.cells #[.int .i64 0, .int .i64 0, .int .i64 0, .bool false] z)).heap.size (((w.alloc (.cells #[.int .i64 L.last, .slice L.sa L.st.length L.sc, .slice L.oa L.op.length L.oc] t)).alloc (.cells #[.int .i64 lo, .int .i64 hi] u)).alloc (.cells #[.int .i64 0, .int .i64 0, .int .i64 0, .bool false] z)) w') :
    LdAt w' w.heap.size L.last (.slice L.sa L.st.length L.sc) (.slice L.oa L.op.length L.oc) ∧ w'.cell? ⟨w.heap.size + 1, 0, none⟩ = some (.int .i64 lo) ∧ w'.cell? ⟨w.heap.size + 1, 1, none⟩ = some (.int .i64 hi) ∧ Below w.heap.size w w' ∧ Blk w' (w.heap.size + 2) z #[.int .i64 0, .int .i64 0, .int .i64 0, .bool false] := by
  obtain ⟨a1, a2, a3, a4⟩ := @ld_keep w w' t u L lo hi (((Below.refl _ _).alloc (Nat.le_refl _) _).trans (hb.mono (by simp)))
  refine ⟨a1, a2, a3, a4, ?_⟩
  have h := (Blk.new ((w.alloc (.cells #[.int .i64 L.last, .slice L.sa L.st.length L.sc, .slice L.oa L.op.length L.oc] t)).alloc (.cells #[.int .i64 lo, .int .i64 hi] u)) z #[.int .i64 0, .int .i64 0, .int .i64 0, .bool false]).below hb (by simp)
  simpa using h
theorem set4 {w w' : World} {g : Nat} {a b c d : Value} (hb : Below w.heap.size w w') (hg : w.heap.size ≤ g) : Below w.heap.size w ((((w'.setCell ⟨g, 0, none⟩ a).setCell ⟨g, 1, none⟩ b).setCell ⟨g, 2, none⟩ c).setCell ⟨g, 3, none⟩ d) :=
  (((hb.setCell (p := ⟨g, 0, none⟩) hg _).setCell (p := ⟨g, 1, none⟩) hg _).setCell (p := ⟨g, 2, none⟩) hg _).setCell (p := ⟨g, 3, none⟩) hg _
theorem read_cases (L : LdV) (key ts lo hi : Int) : L.ok = false ∧ readLS L key ts lo hi = (Ver.zero, false, 1) ∨ L.ok = true ∧ (ivB lo hi = false ∧ readLS L key ts lo hi = (Ver.zero, false, 1) ∨ ivB lo hi = true ∧ (btw key 1 1000 = false ∧ readLS L key ts lo hi = (Ver.zero, false, 1) ∨ btw key 1 1000 = true ∧ (btw ts 1 3000000000000000 = false ∧ readLS L key ts lo hi = (Ver.zero, false, 1) ∨ btw ts 1 3000000000000000 = true ∧ (0 < pastN (txs L.op) (ts + 1) ∧ readLS L key ts lo hi = (Ver.zero, false, 61) ∨ ¬0 < pastN (txs L.op) (ts + 1) ∧ (L.last < ts ∧ lo ≤ ts ∧ readLS L key ts lo hi = (Ver.zero, false, 61) ∨ (¬L.last < ts ∨ L.last < ts ∧ ¬lo ≤ ts) ∧ readLS L key ts lo hi = atS L.st key ts))))) := by
  unfold readLS waitB
  cases L.ok <;> cases ivB lo hi <;> cases btw key 1 1000 <;> cases btw ts 1 3000000000000000 <;> by_cases h1 : 0 < pastN (txs L.op) (ts + 1) <;> by_cases h2 : L.last < ts <;> by_cases h3 : lo ≤ ts <;> simp [h1, h2, h3]
set_option maxHeartbeats 16000000 in
set_option maxRecDepth 100000 in
theorem read_any (L : LdV) (key ts lo hi : Int) (w : World) (hs : LdS L) (h : LdW w L) :
    Calls Try.prog 23 #[.agg #[.int .i64 L.last, .slice L.sa L.st.length L.sc, .slice L.oa L.op.length L.oc], .int .i64 key, .int .i64 ts, .agg #[.int .i64 lo, .int .i64 hi]] w (RetVBE w (readLS L key ts lo hi)) := by
  have V := hide fun W (s : LdW W L) => lv_any L W hs s
  have I := hide fun W => iv_any lo hi W
  have BT := hide between_any
  have HL := hide h
  have HS := hide hs
  have b3 := hide (((((Below.refl w.heap.size w).alloc (Nat.le_refl _) (.cells #[.int .i64 L.last, .slice L.sa L.st.length L.sc, .slice L.oa L.op.length L.oc] 25)).alloc (by simp) (.cells #[.int .i64 lo, .int .i64 hi] 31)).alloc (by simp; omega) (.cells #[.int .i64 0, .int .i64 0, .int .i64 0, .bool false] 44)))
  have K := hide fun W hb => @rd_keep w W 25 31 44 L lo hi hb
  have RC := read_cases L key ts lo hi
  unfold RetVBE
  clear h hs
  rcases RC with ⟨q1, hr⟩ | ⟨q1, ⟨q2, hr⟩ | ⟨q2, ⟨q3, hr⟩ | ⟨q3, ⟨q4, hr⟩ | ⟨q4, ⟨q5, hr⟩ | ⟨q5, ⟨q6, q7, hr⟩ | ⟨q67, hr⟩⟩⟩⟩⟩⟩
  · have HP := hide hr
    rw [q1] at V
    clear hr
    go_enter Try.func23, Try.ntmps23
    go_wp2_with (first
      | (go_at_call 16; refine (V.out _ (HL.out.then_ b3.out)).mono ?_; rintro e w1 ⟨rfl, hb⟩; obtain ⟨k1, k2, k3, k4, kq⟩ := K.out _ hb; have HB := hide hb; clear hb; have kc := kq.cell; have kf := kq.frozen; unfold LdAt at k1))
    refine bodyPost_ret (results_blk3 rfl _ _ (w.heap.size + 2) 44 _ _ rfl ((((kq.set_ 0 _).set_ 1 _).set_ 2 _).set_ 3 _) Try.underlying44 rfl (by kernel_rfl)) rfl ⟨by rw [HP.out]; rfl, set4 k4 (by omega)⟩
  · have HP := hide hr
    rw [q1] at V
    rw [q2] at I
    clear hr
    go_enter Try.func23, Try.ntmps23
    go_wp2_with (first
      | (go_at_call 16; refine (V.out _ (HL.out.then_ b3.out)).mono ?_; rintro e w1 ⟨rfl, hb⟩; obtain ⟨k1, k2, k3, k4, kq⟩ := K.out _ hb; have HB := hide hb; clear hb; have kc := kq.cell; have kf := kq.frozen; unfold LdAt at k1)
      | (go_at_call 43; refine (I.out _).mono ?_; rintro e w2 ⟨rfl, hb⟩; clear k1 k2 k3 k4 kc kf kq; obtain ⟨k1, k2, k3, k4, kq⟩ := K.out _ (HB.out.trans (hb.mono HB.out.size)); have hb2 := HB.out.trans (hb.mono HB.out.size); clear HB hb; have HB := hide hb2; clear hb2; have kc := kq.cell; have kf := kq.frozen; unfold LdAt at k1))
    refine bodyPost_ret (results_blk3 rfl _ _ (w.heap.size + 2) 44 _ _ rfl ((((kq.set_ 0 _).set_ 1 _).set_ 2 _).set_ 3 _) Try.underlying44 rfl (by kernel_rfl)) rfl ⟨by rw [HP.out]; rfl, set4 k4 (by omega)⟩
  · have HP := hide hr
    rw [q1] at V
    rw [q2] at I
    clear hr
    go_enter Try.func23, Try.ntmps23
    go_wp2_with (first
      | (go_at_call 16; refine (V.out _ (HL.out.then_ b3.out)).mono ?_; rintro e w1 ⟨rfl, hb⟩; obtain ⟨k1, k2, k3, k4, kq⟩ := K.out _ hb; have HB := hide hb; clear hb; have kc := kq.cell; have kf := kq.frozen; unfold LdAt at k1)
      | (go_at_call 43; refine (I.out _).mono ?_; rintro e w2 ⟨rfl, hb⟩; clear k1 k2 k3 k4 kc kf kq; obtain ⟨k1, k2, k3, k4, kq⟩ := K.out _ (HB.out.trans (hb.mono HB.out.size)); have hb2 := HB.out.trans (hb.mono HB.out.size); clear HB hb; have HB := hide hb2; clear hb2; have kc := kq.cell; have kf := kq.frozen; unfold LdAt at k1)
      | (go_at_call 55; refine (BT.out _ _ _ _).mono ?_; rintro e w3 ⟨rfl, rfl⟩))
    refine bodyPost_ret (results_blk3 rfl _ _ (w.heap.size + 2) 44 _ _ rfl ((((kq.set_ 0 _).set_ 1 _).set_ 2 _).set_ 3 _) Try.underlying44 rfl (by kernel_rfl)) rfl ⟨by rw [HP.out]; rfl, set4 k4 (by omega)⟩
  · have HP := hide hr
    rw [q1] at V
    rw [q2] at I
    clear hr
    go_enter Try.func23, Try.ntmps23
    go_wp2_with (first
      | (go_at_call 16; refine (V.out _ (HL.out.then_ b3.out)).mono ?_; rintro e w1 ⟨rfl, hb⟩; obtain ⟨k1, k2, k3, k4, kq⟩ := K.out _ hb; have HB := hide hb; clear hb; have kc := kq.cell; have kf := kq.frozen; unfold LdAt at k1)
      | (go_at_call 43; refine (I.out _).mono ?_; rintro e w2 ⟨rfl, hb⟩; clear k1 k2 k3 k4 kc kf kq; obtain ⟨k1, k2, k3, k4, kq⟩ := K.out _ (HB.out.trans (hb.mono HB.out.size)); have hb2 := HB.out.trans (hb.mono HB.out.size); clear HB hb; have HB := hide hb2; clear hb2; have kc := kq.cell; have kf := kq.frozen; unfold LdAt at k1)
      | (go_at_call 55; refine (BT.out _ _ _ _).mono ?_; rintro e w3 ⟨rfl, rfl⟩))
    refine bodyPost_ret (results_blk3 rfl _ _ (w.heap.size + 2) 44 _ _ rfl ((((kq.set_ 0 _).set_ 1 _).set_ 2 _).set_ 3 _) Try.underlying44 rfl (by kernel_rfl)) rfl ⟨by rw [HP.out]; rfl, set4 k4 (by omega)⟩
  · have HP := hide hr
    rw [q1] at V
    rw [q2] at I
    have tb := btw_t.1 q4
    obtain ⟨tb1, tb2⟩ := tb
    have PT := hide fun W (s : LdW W L) => pastL_any L (ts + 1) W q1 s
    obtain ⟨N, hN⟩ : ∃ N, N = pastN (txs L.op) (ts + 1) := ⟨_, rfl⟩
    rw [← hN] at PT q5
    clear hN q1
    have d5 : decide (0 < (N : Int)) = true := decide_eq_true (by omega)
    have d5b : decide (0 < N) = true := decide_eq_true (by omega)
    clear q5
    clear hr
    go_enter Try.func23, Try.ntmps23
    go_wp2_with (first
      | (go_at_call 16; refine (V.out _ (HL.out.then_ b3.out)).mono ?_; rintro e w1 ⟨rfl, hb⟩; obtain ⟨k1, k2, k3, k4, kq⟩ := K.out _ hb; have HB := hide hb; clear hb; have kc := kq.cell; have kf := kq.frozen; unfold LdAt at k1)
      | (go_at_call 43; refine (I.out _).mono ?_; rintro e w2 ⟨rfl, hb⟩; clear k1 k2 k3 k4 kc kf kq; obtain ⟨k1, k2, k3, k4, kq⟩ := K.out _ (HB.out.trans (hb.mono HB.out.size)); have hb2 := HB.out.trans (hb.mono HB.out.size); clear HB hb; have HB := hide hb2; clear hb2; have kc := kq.cell; have kf := kq.frozen; unfold LdAt at k1)
      | (go_at_call 55; refine (BT.out _ _ _ _).mono ?_; rintro e w3 ⟨rfl, rfl⟩)
      | (go_at_call 58; refine (PT.out _ (HL.out.then_ k4)).mono ?_; rintro e w4 ⟨rfl, hb⟩; clear k1 k2 k3 k4 kc kf kq; obtain ⟨k1, k2, k3, k4, kq⟩ := K.out _ (HB.out.trans (hb.mono HB.out.size)); have hb2 := HB.out.trans (hb.mono HB.out.size); clear HB hb; have HB := hide hb2; clear hb2; have kc := kq.cell; have kf := kq.frozen; unfold LdAt at k1))
    refine bodyPost_ret (results_blk3 rfl _ _ (w.heap.size + 2) 44 _ _ rfl ((((kq.set_ 0 _).set_ 1 _).set_ 2 _).set_ 3 _) Try.underlying44 rfl (by kernel_rfl)) rfl ⟨by rw [HP.out]; rfl, set4 k4 (by omega)⟩
  · have HP := hide hr
    rw [q1] at V
    rw [q2] at I
    have tb := btw_t.1 q4
    obtain ⟨tb1, tb2⟩ := tb
    have PT := hide fun W (s : LdW W L) => pastL_any L (ts + 1) W q1 s
    obtain ⟨N, hN⟩ : ∃ N, N = pastN (txs L.op) (ts + 1) := ⟨_, rfl⟩
    rw [← hN] at PT q5
    clear hN q1
    have d5 : decide (0 < (N : Int)) = false := decide_eq_false (by omega)
    have d5b : decide (0 < N) = false := decide_eq_false (by omega)
    clear q5
    have d6 : decide (L.last < ts) = true := decide_eq_true q6
    have d7 : decide (lo ≤ ts) = true := decide_eq_true q7
    clear q6 q7
    clear hr
    go_enter Try.func23, Try.ntmps23
    go_wp2_with (first
      | (go_at_call 16; refine (V.out _ (HL.out.then_ b3.out)).mono ?_; rintro e w1 ⟨rfl, hb⟩; obtain ⟨k1, k2, k3, k4, kq⟩ := K.out _ hb; have HB := hide hb; clear hb; have kc := kq.cell; have kf := kq.frozen; unfold LdAt at k1)
      | (go_at_call 43; refine (I.out _).mono ?_; rintro e w2 ⟨rfl, hb⟩; clear k1 k2 k3 k4 kc kf kq; obtain ⟨k1, k2, k3, k4, kq⟩ := K.out _ (HB.out.trans (hb.mono HB.out.size)); have hb2 := HB.out.trans (hb.mono HB.out.size); clear HB hb; have HB := hide hb2; clear hb2; have kc := kq.cell; have kf := kq.frozen; unfold LdAt at k1)
      | (go_at_call 55; refine (BT.out _ _ _ _).mono ?_; rintro e w3 ⟨rfl, rfl⟩)
      | (go_at_call 58; refine (PT.out _ (HL.out.then_ k4)).mono ?_; rintro e w4 ⟨rfl, hb⟩; clear k1 k2 k3 k4 kc kf kq; obtain ⟨k1, k2, k3, k4, kq⟩ := K.out _ (HB.out.trans (hb.mono HB.out.size)); have hb2 := HB.out.trans (hb.mono HB.out.size); clear HB hb; have HB := hide hb2; clear hb2; have kc := kq.cell; have kf := kq.frozen; unfold LdAt at k1))
    refine bodyPost_ret (results_blk3 rfl _ _ (w.heap.size + 2) 44 _ _ rfl ((((kq.set_ 0 _).set_ 1 _).set_ 2 _).set_ 3 _) Try.underlying44 rfl (by kernel_rfl)) rfl ⟨by rw [HP.out]; rfl, set4 k4 (by omega)⟩
  · have HP := hide hr
    rw [q1] at V
    rw [q2] at I
    have tb := btw_t.1 q4
    obtain ⟨tb1, tb2⟩ := tb
    have PT := hide fun W (s : LdW W L) => pastL_any L (ts + 1) W q1 s
    obtain ⟨N, hN⟩ : ∃ N, N = pastN (txs L.op) (ts + 1) := ⟨_, rfl⟩
    rw [← hN] at PT q5
    clear hN q1
    have d5 : decide (0 < (N : Int)) = false := decide_eq_false (by omega)
    have d5b : decide (0 < N) = false := decide_eq_false (by omega)
    clear q5
    have AT0 := fun W (s : VS W L.sa L.st) => at_any L.sa L.sc L.st key ts W (by have := HS.out.st; omega) s
    obtain ⟨⟨⟨ak, at_, av, ag⟩, ab, ae⟩, ha⟩ : ∃ x, x = atS L.st key ts := ⟨_, rfl⟩
    rw [← ha] at AT0
    have HAT := hide ha.symm
    have AT := hide AT0
    clear AT0 ha
    clear hr
    rcases q67 with q6 | ⟨q6, q7⟩
    · have d6 : decide (L.last < ts) = false := decide_eq_false q6
      clear q6
      go_enter Try.func23, Try.ntmps23
      go_wp2_with (first
        | (go_at_call 16; refine (V.out _ (HL.out.then_ b3.out)).mono ?_; rintro e w1 ⟨rfl, hb⟩; obtain ⟨k1, k2, k3, k4, kq⟩ := K.out _ hb; have HB := hide hb; clear hb; have kc := kq.cell; have kf := kq.frozen; unfold LdAt at k1)
        | (go_at_call 43; refine (I.out _).mono ?_; rintro e w2 ⟨rfl, hb⟩; clear k1 k2 k3 k4 kc kf kq; obtain ⟨k1, k2, k3, k4, kq⟩ := K.out _ (HB.out.trans (hb.mono HB.out.size)); have hb2 := HB.out.trans (hb.mono HB.out.size); clear HB hb; have HB := hide hb2; clear hb2; have kc := kq.cell; have kf := kq.frozen; unfold LdAt at k1)
        | (go_at_call 55; refine (BT.out _ _ _ _).mono ?_; rintro e w3 ⟨rfl, rfl⟩)
        | (go_at_call 58; refine (PT.out _ (HL.out.then_ k4)).mono ?_; rintro e w4 ⟨rfl, hb⟩; clear k1 k2 k3 k4 kc kf kq; obtain ⟨k1, k2, k3, k4, kq⟩ := K.out _ (HB.out.trans (hb.mono HB.out.size)); have hb2 := HB.out.trans (hb.mono HB.out.size); clear HB hb; have HB := hide hb2; clear hb2; have kc := kq.cell; have kf := kq.frozen; unfold LdAt at k1)
        | (go_at_call 30; refine (AT.out _ (HL.out.then_ k4).s).mono ?_; unfold RetVBE; rintro e w5 ⟨rfl, hb⟩; clear k1 k2 k3 k4 kc kf kq; obtain ⟨k1, k2, k3, k4, kq⟩ := K.out _ (HB.out.trans (hb.mono HB.out.size)); have hb2 := HB.out.trans (hb.mono HB.out.size); clear HB hb; have HB := hide hb2; clear hb2; have kc := kq.cell; have kf := kq.frozen; unfold LdAt at k1))
      refine bodyPost_ret (results_blk3 rfl _ _ (w.heap.size + 2) 44 _ _ rfl ((((kq.set_ 0 _).set_ 1 _).set_ 2 _).set_ 3 _) Try.underlying44 rfl (by kernel_rfl)) rfl ⟨by rw [HP.out, HAT.out]; rfl, set4 k4 (by omega)⟩
    · have d6 : decide (L.last < ts) = true := decide_eq_true q6
      have d7 : decide (lo ≤ ts) = false := decide_eq_false q7
      clear q6 q7
      go_enter Try.func23, Try.ntmps23
      go_wp2_with (first
        | (go_at_call 16; refine (V.out _ (HL.out.then_ b3.out)).mono ?_; rintro e w1 ⟨rfl, hb⟩; obtain ⟨k1, k2, k3, k4, kq⟩ := K.out _ hb; have HB := hide hb; clear hb; have kc := kq.cell; have kf := kq.frozen; unfold LdAt at k1)
        | (go_at_call 43; refine (I.out _).mono ?_; rintro e w2 ⟨rfl, hb⟩; clear k1 k2 k3 k4 kc kf kq; obtain ⟨k1, k2, k3, k4, kq⟩ := K.out _ (HB.out.trans (hb.mono HB.out.size)); have hb2 := HB.out.trans (hb.mono HB.out.size); clear HB hb; have HB := hide hb2; clear hb2; have kc := kq.cell; have kf := kq.frozen; unfold LdAt at k1)
        | (go_at_call 55; refine (BT.out _ _ _ _).mono ?_; rintro e w3 ⟨rfl, rfl⟩)
        | (go_at_call 58; refine (PT.out _ (HL.out.then_ k4)).mono ?_; rintro e w4 ⟨rfl, hb⟩; clear k1 k2 k3 k4 kc kf kq; obtain ⟨k1, k2, k3, k4, kq⟩ := K.out _ (HB.out.trans (hb.mono HB.out.size)); have hb2 := HB.out.trans (hb.mono HB.out.size); clear HB hb; have HB := hide hb2; clear hb2; have kc := kq.cell; have kf := kq.frozen; unfold LdAt at k1)
        | (go_at_call 30; refine (AT.out _ (HL.out.then_ k4).s).mono ?_; unfold RetVBE; rintro e w5 ⟨rfl, hb⟩; clear k1 k2 k3 k4 kc kf kq; obtain ⟨k1, k2, k3, k4, kq⟩ := K.out _ (HB.out.trans (hb.mono HB.out.size)); have hb2 := HB.out.trans (hb.mono HB.out.size); clear HB hb; have HB := hide hb2; clear hb2; have kc := kq.cell; have kf := kq.frozen; unfold LdAt at k1))
      refine bodyPost_ret (results_blk3 rfl _ _ (w.heap.size + 2) 44 _ _ rfl ((((kq.set_ 0 _).set_ 1 _).set_ 2 _).set_ 3 _) Try.underlying44 rfl (by kernel_rfl)) rfl ⟨by rw [HP.out, HAT.out]; rfl, set4 k4 (by omega)⟩
end Go.Proofs.Ytficjpfhakggmaa
