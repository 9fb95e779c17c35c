/-
  Texts joined: Mb, Mc, Lw24, Md, Me, Mf, Na, Nb, Nc, Ne, Lp, Lq, Pa27, Pb27, Pc27, Pd27, Pe27, Pf27, Pg27, Ph27, Pi27, Pj27, TbL, Ol.
-/
import Derived.KernelRfl
import Derived.Test.YtggaodokkcoagaaGreatDoorRows
import Derived.Lib.LaidU8
import Derived.Test.YtggaodokkcoagaaGreatDoorL10
import Derived.Test.YtggaodokkcoagaaGreatDoorL12
import Derived.Test.YtggaodokkcoagaaGreatDoorL16
set_option linter.unusedSimpArgs false
set_option linter.unusedVariables false
set_option maxRecDepth 100000
set_option maxHeartbeats 16000000
namespace Go.Proofs.YtggaodokkcoagaaGreatDoor
open Go.RowKit
theorem wrap_i64_rng (n : Int) : -9223372036854775808 ≤ IntKind.i64.wrap n ∧ IntKind.i64.wrap n ≤ 9223372036854775807 := by rw [IntKind.wrap_i64]; omega
theorem wrap_u64_rng (n : Int) : 0 ≤ IntKind.u64.wrap n ∧ IntKind.u64.wrap n ≤ 18446744073709551615 := by rw [IntKind.wrap_u64]; omega
theorem sumB_rng (l : List Int) : 0 ≤ sumB l ∧ sumB l ≤ 18446744073709551615 := by
 unfold sumB; have key : ∀ (l : List Int) (b : Int), 0 ≤ b ∧ b ≤ 18446744073709551615 → 0 ≤ l.foldl sumF b ∧ l.foldl sumF b ≤ 18446744073709551615 := by
  intro l
  induction l with
  | nil => intro b h; exact h
  | cons x l ih => intro b _; exact ih _ (wrap_u64_rng _)
 exact key l _ (by omega)
theorem rootF_rng (l : List Int) : 0 ≤ rootF l ∧ rootF l ≤ 18446744073709551615 := by
 rcases Classical.em (2 ≤ l.length) with h | h
 ·rw [rootF, rootT_split h]; exact sumB_rng _
 ·rw [rootF, rootT_one h]; exact sumB_rng _
theorem dnext {d : Int} {l : List Int} (h : inI l) (h1 : 1 ≤ l.length) (h2 : l.length ≤ 10000) {F : Nat} (hF : 64 ≤ F) : Gbw F d l = some (nextF d l) := by
 obtain ⟨F', rfl⟩ : ∃ F', F = F' + 1 := ⟨F - 1, by omega⟩; exact whenG_t (decide_eq_true ⟨h, h2, h1⟩)
theorem rnext {d : Int} {l : List Int} (h : inI l) (h1 : 1 ≤ l.length) (h2 : l.length ≤ 10000) {F : Nat} (hF : 64 ≤ F) : Gbz F d l = some (nextF d l) := by
 obtain ⟨F', rfl⟩ : ∃ F', F = F' + 1 := ⟨F - 1, by omega⟩; exact whenG_t (decide_eq_true ⟨h, h2, h1⟩)
theorem dints {l : List Int} (h : inI l) (h2 : l.length ≤ 10000) {F : Nat} (hF : 64 ≤ F) : Gav F l = some (intsF l) := by
 obtain ⟨F', rfl⟩ : ∃ F', F = F' + 1 := ⟨F - 1, by omega⟩; exact whenG_t (decide_eq_true ⟨h, by omega⟩)
theorem rints {l : List Int} (h : inI l) (h2 : l.length ≤ 10000) {F : Nat} (hF : 64 ≤ F) : Ga9 F l = some (intsF l) := by
 obtain ⟨F', rfl⟩ : ∃ F', F = F' + 1 := ⟨F - 1, by omega⟩; exact whenG_t (decide_eq_true ⟨h, by omega⟩)
def leafE (e : Kb) : Int := nextF e.Doc [e.Stamp.Lo, e.Stamp.Hi]
theorem inI_two {a b : Int} (ha : inKd .i64 a) (hb : inKd .i64 b) : inI [a, b] := by
 intro z hz; rcases List.mem_cons.1 hz with rfl | hz
 ·exact inKd_i64 ha
 ·rcases List.mem_cons.1 hz with rfl | hz
  ·exact inKd_i64 hb
  ·cases hz
theorem leaf_p {e : Kb} (h : e.rng) {F : Nat} (hF : 64 ≤ F) : Gj F e = some (leafE e) := by
 unfold Gj Gbx; rw [dnext (inI_two h.r_Stamp.r_Lo h.r_Stamp.r_Hi) (by simp) (by simp) hF]; rfl
theorem leaf_r {e : Kb} (h : e.rng) {F : Nat} (hF : 64 ≤ F) : Gan F e = some (leafE e) := by
 unfold Gan; rw [rnext (inI_two h.r_Stamp.r_Lo h.r_Stamp.r_Hi) (by simp) (by simp) hF]; rfl
def eAt (l : List Kb) (k : Nat) : Kb := l.getD k ⟨0, ⟨0, 0⟩⟩
theorem eAt_get {l : List Kb} {k : Nat} (h : k < l.length) : l[k]? = some (eAt l k) := by
 unfold eAt; rw [List.getD_eq_getElem?_getD, List.getElem?_eq_getElem h]; rfl
def okAt (l : List Kb) (k : Nat) : Bool := vI (eAt l k).Stamp && !(decide (0 < k) && decide ((eAt l k).Stamp.Lo < (eAt l (k - 1)).Stamp.Lo))
def ordB (l : List Kb) : Bool := frB (okAt l) l.length 0
def vO (o : Kg) : Bool := ordB o.Entries && (decide (1 ≤ o.ID ∧ o.ID ≤ 16) && decide (o.Entries.length ≤ 4096))
theorem pred_w {k : Nat} (h : 0 < k) (h2 : k < 1000000) : IntKind.i64.wrap ((k : Int) - 1) = ((k - 1 : Nat) : Int) := by rw [IntKind.wrap_i64]; omega
theorem valid_p {o : Kg} (hl : o.Entries.length ≤ 50) {F : Nat} (hF : 64 ≤ F) : Gm F o = some (vO o) := by
 unfold Gm; rw [iter_all o.Entries.length (okAt o.Entries) (.inl ()) (.inr ()) ?_ ?_ (by omega)]
 ·unfold vO; rw [btw_p]
  show _ = some (ordB o.Entries && _)
  unfold ordB; cases frB (okAt o.Entries) o.Entries.length 0 with
  | true =>
   simp only [if_true, ob_some, Sum.elim_inl, Bool.true_and]
   by_cases h1 : 1 ≤ o.ID ∧ o.ID ≤ 16 <;> by_cases h2 : o.Entries.length ≤ 4096 <;> simp [ifB, h1, h2] <;> omega
  | false => rfl
 ·rw [show decide ((o.Entries.length : Int) < (o.Entries.length : Int)) = false from decide_eq_false (by omega)]; rfl
 ·intro k hk; rw [show decide ((k : Int) < (o.Entries.length : Int)) = true from decide_eq_true (by omega), ifB_t, ixI_nat, eAt_get hk]; simp only [ob_some, logged_p]; unfold okAt; rw [w64_nat (by omega)]; cases hv : vI (eAt o.Entries k).Stamp with
  | false => rfl
  | true =>
   rw [ifB_t]
   by_cases h0 : 0 < k
   ·rw [show decide ((k : Int) > 0) = true from decide_eq_true (by omega), ifB_t, pred_w h0 (by omega), ixI_nat, eAt_get (by omega)]; simp only [ob_some]; rw [show decide (0 < k) = true from decide_eq_true h0]; cases decide ((eAt o.Entries k).Stamp.Lo < (eAt o.Entries (k - 1)).Stamp.Lo) <;> rfl
   ·rw [show decide ((k : Int) > 0) = false from decide_eq_false (by omega), ifB_f, show decide (0 < k) = false from decide_eq_false h0]; rfl
theorem valid_r {o : Kg} (hl : o.Entries.length ≤ 50) {F : Nat} (hF : 64 ≤ F) : Gv F o = some (vO o) := by
 unfold Gv; have h4 : decide ((o.Entries.length : Int) > 4096) = false := decide_eq_false (by omega); have h4' : decide (o.Entries.length ≤ 4096) = true := decide_eq_true (by omega); rw [h4]
 by_cases hid : 1 ≤ o.ID ∧ o.ID ≤ 16
 ·rw [show decide (o.ID < 1) = false from decide_eq_false (by omega), show decide (o.ID > 16) = false from decide_eq_false (by omega)]; simp only [ifB_f, ob_some]; rw [iter_all o.Entries.length (okAt o.Entries) (.inl ()) (.inr ()) ?_ ?_ (by omega)]
  ·unfold vO ordB; rw [h4', show decide (1 ≤ o.ID ∧ o.ID ≤ 16) = true from decide_eq_true hid]; cases frB (okAt o.Entries) o.Entries.length 0 <;> rfl
  ·rw [show decide ((o.Entries.length : Int) < (o.Entries.length : Int)) = false from decide_eq_false (by omega)]; rfl
  ·intro k hk; rw [show decide ((k : Int) < (o.Entries.length : Int)) = true from decide_eq_true (by omega), ifB_t, ixI_nat, eAt_get hk]; simp only [ob_some, vI_r]; unfold okAt; rw [w64_nat (by omega)]; cases hv : vI (eAt o.Entries k).Stamp with
   | false => rfl
   | true =>
    rw [ifB_t]
    by_cases h0 : 0 < k
    ·rw [show decide ((k : Int) > 0) = true from decide_eq_true (by omega), ifB_t, pred_w h0 (by omega), ixI_nat, eAt_get (by omega)]; simp only [ob_some]; rw [show decide (0 < k) = true from decide_eq_true h0]; cases decide ((eAt o.Entries k).Stamp.Lo < (eAt o.Entries (k - 1)).Stamp.Lo) <;> rfl
    ·rw [show decide ((k : Int) > 0) = false from decide_eq_false (by omega), ifB_f, show decide (0 < k) = false from decide_eq_false h0]; rfl
 ·have hv : vO o = false := by unfold vO; rw [show decide (1 ≤ o.ID ∧ o.ID ≤ 16) = false from decide_eq_false hid]; simp
  rw [hv]
  by_cases h1 : o.ID < 1
  ·rw [show decide (o.ID < 1) = true from decide_eq_true h1]; rfl
  ·rw [show decide (o.ID < 1) = false from decide_eq_false h1, show decide (o.ID > 16) = true from decide_eq_true (by omega)]; rfl
def valsF (o : Kg) (n : Nat) : List Int := (o.Entries.take n).map leafE
theorem take_map_succ {l : List Kb} {k : Nat} (h : k < l.length) : (l.take (k + 1)).map leafE = (l.take k).map leafE ++ [leafE (eAt l k)] := by
 rw [List.take_add_one, eAt_get h]
 simp
theorem vals_r {o : Kg} (hr : o.rng) {n : Nat} (hn : n ≤ o.Entries.length) (hl : n ≤ 60) {F : Nat} (hF : 64 ≤ F) : G5 F o (n : Int) = some (valsF o n) := by
 unfold G5 valsF; rw [show (([] : List Int), (0 : Int)) = (fun k : Nat => ((o.Entries.take k).map leafE, (k : Int))) 0 from rfl]; rw [iter_seq (fun k : Nat => ((o.Entries.take k).map leafE, (k : Int))) n ((o.Entries.take n).map leafE) ?_ ?_ (by omega)]
 ·rfl
 ·intro k hk; simp only [un2]; have hk' : k < o.Entries.length := by omega
  rw [show decide ((k : Int) < (n : Int)) = true from decide_eq_true (by omega), ifB_t, ixI_nat, eAt_get hk']; simp only [ob_some]; rw [leaf_r (hr.r_Entries _ (List.mem_of_getElem? (eAt_get hk'))) hF]; simp only [ob_some]; rw [apG_ok (by simp only [lm_, List.length_take, List.length_cons, List.length_nil]; omega), w64_nat (by omega), take_map_succ hk']; rfl
 ·simp only [un2]; rw [show decide ((n : Int) < (n : Int)) = false from decide_eq_false (by omega)]; rfl
theorem coll_p {l : List Kb} (hr : ∀ e ∈ l, e.rng) (hl : l.length ≤ 60) {F : Nat} (hF : 64 ≤ F) : iter (σ := Int × (List Int)) (ρ := (List Int)) (un2 fun (v_43 : Int) (v_44 : (List Int)) => 
          (ifB (decide (v_43 < (l.length : Int)))
            (Option.bind (ixI l v_43) (fun v_52 =>
            Option.bind (Gj F v_52) (fun v_59 =>
            Option.bind (apG 8 v_44 ([v_59] : List Int)) (fun v_61 =>
            some (.inl (IntKind.i64.wrap (v_43 + 1), v_61))))))
            (some (.inr v_44)) : Option ((Int × (List Int)) ⊕ (List Int)))) F (0, ([] : List Int)) = some (l.map leafE) := by
  rw [show ((0 : Int), ([] : List Int)) = (fun k : Nat => ((k : Int), (l.take k).map leafE)) 0 from rfl]
  rw [iter_seq (fun k : Nat => ((k : Int), (l.take k).map leafE)) l.length (l.map leafE) ?_ ?_ (by omega)]
  · intro k hk
    simp only [un2]
    rw [show decide ((k : Int) < (l.length : Int)) = true from decide_eq_true (by omega), ifB_t, ixI_nat, eAt_get hk]
    simp only [ob_some]
    rw [leaf_p (hr _ (List.mem_of_getElem? (eAt_get hk))) hF]
    simp only [ob_some]
    rw [apG_ok (by simp only [lm_, List.length_take, List.length_cons, List.length_nil]; omega), w64_nat (by omega), take_map_succ hk]
    rfl
  · simp only [un2]
    rw [show decide ((l.length : Int) < (l.length : Int)) = false from decide_eq_false (by omega), List.take_length]
    rfl
theorem root_p {o : Kg} (hr : o.rng) {n : Nat} (hn : n ≤ o.Entries.length) (hl : n ≤ 60) {F : Nat} (hF : 64 ≤ F) : Gag F o (n : Int) = some (rootS (valsF o n)) := by
 obtain ⟨F', rfl⟩ : ∃ F', F = F' + 1 := ⟨F - 1, by omega⟩; unfold Gag; rw [show (0 : Int) = ((0 : Nat) : Int) from rfl, slI_ok (Nat.zero_le n) hn]; simp only [ob_some, List.drop_zero]; rw [show ((0 : Nat) : Int) = 0 from rfl, coll_p (fun e he => hr.r_Entries e (List.mem_of_mem_take he)) (by rw [List.length_take]; omega) hF]; rfl
theorem rroot_p (l : List Int) {F : Nat} (hF : 64 ≤ F) : Gbe F l = some (rootS l) := by
 obtain ⟨F', rfl⟩ : ∃ F', F = F' + 1 := ⟨F - 1, by omega⟩; rfl
theorem valsF_len {o : Kg} {n : Nat} (hn : n ≤ o.Entries.length) : (valsF o n).length = n := by unfold valsF; rw [lm_, List.length_take]; omega
def chF (b p : Int) (m : List Int) : Int := intsF ([b, p] ++ m) % 1073741789
theorem chF_rng (b p : Int) (m : List Int) : 0 ≤ chF b p m ∧ chF b p m < 1073741789 := by unfold chF; omega
theorem ch_w (l : List Int) : IntKind.i64.wrap (Int.tmod (intsF l) 1073741789) = intsF l % 1073741789 := by
 have := sumB_rng (textL l); unfold intsF; rw [Int.tmod_eq_emod_of_nonneg this.1, w64_id (by omega) (by omega)]
theorem ch_p {b p : Int} {m : List Int} (h : inI ([b, p] ++ m)) (hl : m.length ≤ 100) {F : Nat} (hF : 64 ≤ F) : Gad F b p m = some (chF b p m) := by
 unfold Gad; rw [apG_ok (by simp; omega)]; simp only [ob_some]; rw [dints h (by simp; omega) hF]; simp only [ob_some]; rw [ch_w]; rfl
theorem ch_r {b p : Int} {m : List Int} (h : inI ([b, p] ++ m)) (hl : m.length ≤ 100) {F : Nat} (hF : 64 ≤ F) : Gbc F b p m = some (chF b p m) := by
 unfold Gbc; rw [apG_ok (by simp; omega)]; simp only [ob_some]; rw [rints h (by simp; omega) hF]; simp only [ob_some]; rw [ch_w]; rfl
theorem inI_app {a b : List Int} (ha : inI a) (hb : inI b) : inI (a ++ b) := fun z hz => by
 rcases List.mem_append.1 hz with hz | hz
 ·exact ha z hz
 ·exact hb z hz
theorem inI_pair {a b : Int} (ha : -9223372036854775808 ≤ a ∧ a ≤ 9223372036854775807) (hb : -9223372036854775808 ≤ b ∧ b ≤ 9223372036854775807) : inI [a, b] := by
 intro z hz; rcases List.mem_cons.1 hz with rfl | hz
 ·exact ha
 ·rcases List.mem_cons.1 hz with rfl | hz
  ·exact hb
  ·cases hz
theorem inI_msg {h : Kc} (h1 : inKd .i64 h.Office) (h2 : inKd .i64 h.Size) : inI (msgF h) := by
 show inI ([h.Office, h.Size] ++ [_, _])
 exact inI_app (inI_pair (inKd_i64 h1) (inKd_i64 h2)) (inI_pair (wrap_i64_rng _) (wrap_i64_rng _))
theorem pw_rng (a x : Nat) : -9223372036854775808 ≤ ((pw a x : Nat) : Int) ∧ ((pw a x : Nat) : Int) ≤ 9223372036854775807 := by have := pw_lt a x; omega
def isK (n : Int) : Bool := decide (1 ≤ n ∧ n < 1073741789)
def sigS (key once : Int) (m : List Int) : KSig × Int :=
 if isK key && isK once then (⟨chF ((pw 4 once.toNat : Nat) : Int) ((pw 4 key.toNat : Nat) : Int) m, (once + chF ((pw 4 once.toNat : Nat) : Int) ((pw 4 key.toNat : Nat) : Int) m * key) % 1073741789⟩, 0) else (⟨0, 0⟩, 1)
theorem pow4 (n : Int) (h0 : 0 ≤ n) (h1 : n ≤ 1073741789) {F : Nat} (hF : 64 ≤ F) : Gd F 4 n = some ((pw 4 n.toNat : Nat) : Int) ∧ Gn F 4 n 2147483579 = some ((pw 4 n.toNat : Nat) : Int) := by
  have hX : n.toNat < 2 ^ 62 := by have : (2 : Nat) ^ 62 = 4611686018427387904 := by decide
                                   omega
  have h1' := pow_pn 4 n.toNat (by decide) hX hF
  have h2' := pow_rn 4 n.toNat (by decide) hX hF
  rw [show ((n.toNat : Nat) : Int) = n by omega] at h1' h2'
  exact ⟨h1', h2'⟩
theorem sum_w {o c k : Int} (ho : 0 ≤ o ∧ o < 1073741789) (hc : 0 ≤ c ∧ c < 1073741789) (hk : 0 ≤ k ∧ k < 1073741789) : Int.tmod (IntKind.i64.wrap (o + IntKind.i64.wrap (c * k))) 1073741789 = (o + c * k) % 1073741789 := by
 have h1 : 0 ≤ c * k := Int.mul_nonneg hc.1 hk.1; have h2 : c * k ≤ 1073741789 * 1073741789 := Int.mul_le_mul (by omega) (by omega) hk.1 (by omega); rw [w64_id (n := c * k) (by omega) (by omega), w64_id (by omega) (by omega), Int.tmod_eq_emod_of_nonneg (by omega)]
theorem sig_p {key once : Int} {m : List Int} (hm : inI m) (hl : m.length ≤ 100) {F : Nat} (hF : 64 ≤ F) : Gaw F key once m = some (sigS key once m) := by
 unfold Gaw sigS isK; simp only [within_p, ob_some]
 by_cases h1 : 1 ≤ key ∧ key < 1073741789
 ·by_cases h2 : 1 ≤ once ∧ once < 1073741789
  ·simp only [h1, h2, and_self, decide_true, ifB_t, ob_some, Bool.not_true, ifB_f, Bool.and_self, if_true]; rw [(pow4 once (by omega) (by omega) hF).1, (pow4 key (by omega) (by omega) hF).1]; simp only [ob_some]; rw [ch_p (inI_app (inI_pair (pw_rng _ _) (pw_rng _ _)) hm) hl hF]; simp only [ob_some]; rw [sum_w ⟨by omega, h2.2⟩ (chF_rng _ _ _) ⟨by omega, h1.2⟩]
  ·simp only [h1, h2, and_self, decide_true, decide_false, ifB_t, ob_some, Bool.not_false, Bool.and_false, Bool.false_eq_true, if_false]
 ·simp only [h1, decide_false, ifB_f, ob_some, ifB_t, Bool.false_and, Bool.false_eq_true, if_false]
def begS (pub : Int) (s : KSig) : Nat := pw 4 s.S.toNat * pw pub.toNat (1073741789 - s.C.toNat) % 2147483579
def expB (s : KSig) : Bool := decide ((0 ≤ s.C ∧ s.C < 1073741789) ∧ (0 ≤ s.S ∧ s.S < 1073741789))
def verS (pub : Int) (s : KSig) (m : List Int) : Bool × Int :=
 if memB pub && expB s then (decide (chF (begS pub s : Int) pub m = s.C), 0) else (false, 1)
theorem memB_spec {a : Int} (h : memB a = true) : 0 < a ∧ a < 2147483579 ∧ pw a.toNat 1073741789 = 1 := of_decide_eq_true h
theorem mem_rng {a : Int} (h : memB a = true) : -9223372036854775808 ≤ a ∧ a ≤ 9223372036854775807 := by have := memB_spec h; omega
theorem beg_w (x y : Nat) (hx : x < 2147483579) (hy : y < 2147483579) : Int.tmod (IntKind.i64.wrap ((x : Int) * (y : Int))) 2147483579 = ((x * y % 2147483579 : Nat) : Int) := by rw [mul_in hx hy, mod_in]
theorem ver_p {pub : Int} {s : KSig} {m : List Int} (hm : inI m) (hl : m.length ≤ 100) {F : Nat} (hF : 64 ≤ F) : Gax F pub s m = some (verS pub s m) := by
  unfold Gax verS expB
  rw [mem_p pub hF]
  simp only [within_p, ob_some]
  cases hb : memB pub with
  | false => simp only [ifB_f, ifB_t, ob_some, Bool.false_and, Bool.false_eq_true, if_false]
  | true =>
    obtain ⟨m1, m2, m3⟩ := memB_spec hb
    by_cases h1 : 0 ≤ s.C ∧ s.C < 1073741789
    · by_cases h2 : 0 ≤ s.S ∧ s.S < 1073741789
      · simp only [h1, h2, and_self, decide_true, ifB_t, ob_some, Bool.not_true, ifB_f, Bool.and_self, if_true]
        have hp := pow_pn pub.toNat (1073741789 - s.C.toNat) (by omega) (by have : (2 : Nat) ^ 62 = 4611686018427387904 := by decide
                                                                            omega) hF
        rw [show ((pub.toNat : Nat) : Int) = pub by omega, show (((1073741789 - s.C.toNat : Nat)) : Int) = IntKind.i64.wrap (1073741789 - s.C) by rw [w64_id (by omega) (by omega)]; omega] at hp
        rw [(pow4 s.S (by omega) (by omega) hF).1, hp]
        simp only [ob_some]
        rw [beg_w _ _ (pw_lt _ _) (pw_lt _ _), ch_p (inI_app (inI_pair (by have := Nat.mod_lt (pw 4 s.S.toNat * pw pub.toNat (1073741789 - s.C.toNat)) (show 0 < 2147483579 by decide); omega) (mem_rng hb)) hm) hl hF]
        simp only [ob_some]
        congr 2
        rw [decide_eq_decide]
        constructor
        · intro h
          have := congrArg KSig.C h
          exact this.symm
        · intro h
          cases s
          simp only [KSig.mk.injEq, and_true]
          exact h.symm
      · simp only [h1, h2, and_self, and_false, decide_true, decide_false, ifB_t, ob_some, Bool.not_false, Bool.and_false, Bool.false_eq_true, if_false]
    · simp only [h1, false_and, decide_false, ifB_t, ifB_f, ob_some, Bool.and_false, Bool.false_eq_true, if_false]
theorem pw_rest {pub : Int} {c : Int} (hb : memB pub = true) (h0 : 0 ≤ c) (h1 : c < 1073741789) : pw pub.toNat ((1073741789 - c) % 1073741789).toNat = pw pub.toNat (1073741789 - c.toNat) := by
 obtain ⟨m1, m2, m3⟩ := memB_spec hb; rw [← pw_mod m3 (1073741789 - c.toNat)]
 congr 1
 omega
theorem ver_r {pub : Int} {s : KSig} {m : List Int} (hm : inI m) (hl : m.length ≤ 100) {F : Nat} (hF : 64 ≤ F) : Gbd F pub s m = some (verS pub s m) := by
  unfold Gbd verS expB
  rw [mem_r pub hF]
  simp only [expo_r, ob_some]
  cases hb : memB pub with
  | false => simp only [ifB_f, ifB_t, ob_some, Bool.false_and, Bool.false_eq_true, if_false]
  | true =>
    obtain ⟨m1, m2, m3⟩ := memB_spec hb
    by_cases h1 : 0 ≤ s.C ∧ s.C < 1073741789
    · by_cases h2 : 0 ≤ s.S ∧ s.S < 1073741789
      · simp only [h1, h2, and_self, decide_true, ifB_t, ob_some, Bool.not_true, ifB_f, Bool.and_self, if_true]
        have hback : Gbb F pub s = some (begS pub s : Int) := by
          unfold Gbb begS
          have hp := pow_rn pub.toNat ((1073741789 - s.C) % 1073741789).toNat (by omega) (by have : (2 : Nat) ^ 62 = 4611686018427387904 := by decide
                                                                                             omega) hF
          rw [show ((pub.toNat : Nat) : Int) = pub by omega, show (((((1073741789 - s.C) % 1073741789).toNat : Nat)) : Int) = Int.tmod (IntKind.i64.wrap (1073741789 - s.C)) 1073741789 by rw [w64_id (by omega) (by omega), Int.tmod_eq_emod_of_nonneg (by omega)]; omega] at hp
          rw [(pow4 s.S (by omega) (by omega) hF).2, hp]
          simp only [ob_some]
          rw [beg_w _ _ (pw_lt _ _) (pw_lt _ _), pw_rest hb h1.1 h1.2]
        rw [hback]
        simp only [ob_some]
        rw [ch_r (inI_app (inI_pair (by have : begS pub s < 2147483579 := Nat.mod_lt _ (by decide)
                                        omega) (mem_rng hb)) hm) hl hF]
        simp only [ob_some]
        rfl
      · simp only [h1, h2, and_self, and_false, decide_true, decide_false, ifB_t, ob_some, Bool.not_false, Bool.and_false, Bool.false_eq_true, if_false]
    · simp only [h1, false_and, decide_false, ifB_t, ifB_f, ob_some, Bool.and_false, Bool.false_eq_true, if_false]
def rightS (pub : Int) (h : Kc) : Bool × Int := if pubB pub && fH h then ((verS pub h.Sig (msgF h)).1, 0) else (false, 1)
theorem pub_mem' {a : Int} (h : pubB a = true) : memB a = true := by unfold pubB at h; simp at h; exact h.1
theorem fH_exp {h : Kc} (hh : fH h = true) : expB h.Sig = true := by
 have := of_decide_eq_true hh; exact decide_eq_true ⟨this.2.2.1, this.2.2.2⟩
theorem verS_ok {pub : Int} {s : KSig} {m : List Int} (h1 : memB pub = true) (h2 : expB s = true) : verS pub s m = (decide (chF (begS pub s : Int) pub m = s.C), 0) := by unfold verS; rw [h1, h2]; rfl
theorem right_p {pub : Int} {h : Kc} (h1 : inKd .i64 h.Office) (h2 : inKd .i64 h.Size) {F : Nat} (hF : 64 ≤ F) : Gf F pub h = some (rightS pub h) := by
 unfold Gf rightS; rw [pub_p pub hF]; simp only [fH_p, ob_some]; cases hp : pubB pub with
 | false => simp only [ifB_f, ifB_t, ob_some, Bool.false_and, Bool.false_eq_true, if_false]
 | true =>
  cases hh : fH h with
  | false => simp only [ifB_t, ob_some, Bool.not_false, Bool.and_false, Bool.false_eq_true, if_false]
  | true =>
   simp only [ifB_t, ob_some, Bool.not_true, ifB_f, Bool.and_self, if_true, msg_p]; rw [ver_p (inI_msg h1 h2) (by simp [msgF]) hF, verS_ok (pub_mem' hp) (fH_exp hh)]; rfl
theorem right_r {pub : Int} {h : Kc} (h1 : inKd .i64 h.Office) (h2 : inKd .i64 h.Size) (h3 : inKd .u64 h.Root) {F : Nat} (hF : 64 ≤ F) : Gao F pub h = some (rightS pub h) := by
 unfold Gao rightS; rw [pub_r pub hF]; simp only [fH_r, ob_some]; cases hp : pubB pub with
 | false => simp only [ifB_f, ifB_t, ob_some, Bool.false_and, Bool.false_eq_true, if_false]
 | true =>
  cases hh : fH h with
  | false => simp only [ifB_t, ob_some, Bool.not_false, Bool.and_false, Bool.false_eq_true, if_false]
  | true =>
   simp only [ifB_t, ob_some, Bool.not_true, ifB_f, Bool.and_self, if_true]; rw [msg_r F h (inKd_u64 h3).1 (inKd_u64 h3).2]; simp only [ob_some]; rw [ver_r (inI_msg h1 h2) (by simp [msgF]) hF, verS_ok (pub_mem' hp) (fH_exp hh)]; rfl
theorem inclF_le {l : List Int} {i : Nat} (h : l.length ≤ 4096) : (inclF l i).length ≤ 12 := by
 unfold inclF; rw [incl_len l.length l rfl i]; exact plen_le 12 _ _ h
theorem extF_le {l : List Int} {m : Nat} {mark : Bool} (h : l.length ≤ 4096) : (extF l m mark).length ≤ 13 := by
 unfold extF; rw [ext_len l.length l rfl m mark]; exact glen_le 12 _ _ _ h
theorem rootS_ok {l : List Int} (h1 : 1 ≤ l.length) (h2 : l.length ≤ 4096) : rootS l = (rootF l, 0) := by
 have hc : checkS l = 0 := by unfold checkS; rw [if_neg (by omega), if_neg (by omega)]
 unfold rootS; rw [if_neg (by simp [hc])]
theorem incS_ok {l : List Int} {i : Nat} (h : i < l.length) (h2 : l.length ≤ 4096) : incS l i = (inclF l i, 0) := by
 have hc : checkS l = 0 := by unfold checkS; rw [if_neg (by omega), if_neg (by omega)]
 unfold incS; rw [if_neg (by simp [hc]), if_neg (by omega), Int.toNat_natCast]
theorem extS_ok {l : List Int} {m : Nat} (h1 : 1 ≤ m) (h : m ≤ l.length) (h2 : l.length ≤ 4096) : extS l m = (extF l m true, 0) := by
 have hc : checkS l = 0 := by unfold checkS; rw [if_neg (by omega), if_neg (by omega)]
 unfold extS; rw [if_neg (by simp [hc]), if_neg (by omega), Int.toNat_natCast]
theorem inKd_w {n : Int} (h0 : -9223372036854775808 ≤ n) (h1 : n ≤ 9223372036854775807) : inKd .i64 n := by
 have : IntKind.i64.min ≤ n ∧ n ≤ IntKind.i64.max := by
  rw [show IntKind.i64.min = -9223372036854775808 by decide, show IntKind.i64.max = 9223372036854775807 by decide]; exact ⟨h0, h1⟩
 simpa [inKd, Lit.wf] using this
theorem inKd_wu {n : Int} (h0 : 0 ≤ n) (h1 : n ≤ 18446744073709551615) : inKd .u64 n := by
 have : IntKind.u64.min ≤ n ∧ n ≤ IntKind.u64.max := by
  rw [show IntKind.u64.min = 0 by decide, show IntKind.u64.max = 18446744073709551615 by decide]; exact ⟨h0, h1⟩
 simpa [inKd, Lit.wf] using this
def bareF (o : Kg) (n : Nat) : Kc := ⟨o.ID, n, rootF (valsF o n), ⟨0, 0⟩⟩
def signS (o : Kg) (n key once : Int) : Kc × Int :=
 if vO o && decide (1 ≤ n ∧ n ≤ o.Entries.length) && (isK key && isK once) then
  (⟨o.ID, n, rootF (valsF o n.toNat), (sigS key once (msgF (bareF o n.toNat))).1⟩, 0)
 else (⟨0, 0, 0, ⟨0, 0⟩⟩, 1)
theorem sigS_ok {k o : Int} {m : List Int} (h : (isK k && isK o) = true) : sigS k o m = ((sigS k o m).1, 0) := by unfold sigS; rw [h]; rfl
theorem sigS_no {k o : Int} {m : List Int} (h : (isK k && isK o) = false) : sigS k o m = (⟨0, 0⟩, 1) := by unfold sigS; rw [h]; rfl
theorem inI_bare {o : Kg} (hr : o.rng) {k : Nat} (hk : k ≤ 1000) : inI (msgF (bareF o k)) := inI_msg hr.r_ID (show inKd .i64 (k : Int) from inKd_w (by omega) (by omega))
theorem sign_p {o : Kg} (hr : o.rng) (hl : o.Entries.length ≤ 50) {n key once : Int} {F : Nat} (hF : 64 ≤ F) : Gl F o n key once = some (signS o n key once) := by
 unfold Gl signS; rw [valid_p hl hF]; simp only [ob_some]; cases hv : vO o with
 | false => simp only [ifB_f, ifB_t, ob_some, Bool.false_and, Bool.false_eq_true, if_false]
 | true =>
  rw [ifB_t, btw_p]; simp only [ob_some]
  by_cases hn : 1 ≤ n ∧ n ≤ (o.Entries.length : Int)
  ·rw [show decide (1 ≤ n ∧ n ≤ (o.Entries.length : Int)) = true from decide_eq_true hn]; obtain ⟨k, rfl⟩ : ∃ k : Nat, n = k := ⟨n.toNat, by omega⟩; simp only [Bool.not_true, ifB_f, Bool.true_and]; rw [root_p hr (by omega) (by omega) hF, rootS_ok (by rw [valsF_len (by omega)]; omega) (by rw [valsF_len (by omega)]; omega)]; simp only [un2, msg_p, ob_some, beq_self_eq_true, ifB_t, Int.toNat_natCast]; rw [show (⟨o.ID, (k : Int), rootF (valsF o k), ⟨0, 0⟩⟩ : Kc) = bareF o k from rfl, sig_p (inI_bare hr (by omega)) (by simp [msgF]) hF]; cases hk : (isK key && isK once) with
   | true =>
    rw [sigS_ok hk]; rfl
   | false =>
    rw [sigS_no hk]; rfl
  ·rw [show decide (1 ≤ n ∧ n ≤ (o.Entries.length : Int)) = false from decide_eq_false hn]; simp only [ifB_t, Bool.not_false, Bool.true_and, Bool.false_and, Bool.false_eq_true, if_false]
def zR : Kk := ⟨⟨0, 0, 0, ⟨0, 0⟩⟩, 0, ⟨0, ⟨0, 0⟩⟩, []⟩
def provS (o : Kg) (h : Kc) (i : Int) : Kk × Int :=
 if vO o && (fH h && decide (h.Size ≤ o.Entries.length ∧ 0 ≤ i ∧ i < h.Size)) then
  (if decide (h.Office = o.ID ∧ h.Root = rootF (valsF o h.Size.toNat)) then (⟨h, i, eAt o.Entries i.toNat, inclF (valsF o h.Size.toNat) i.toNat⟩, 0) else (zR, 33))
 else (zR, 1)
theorem fH_size {h : Kc} (hh : fH h = true) : 1 ≤ h.Size ∧ h.Size ≤ 4096 := (of_decide_eq_true hh).2.1
theorem pinc_p (l : List Int) (i : Int) {F : Nat} (hF : 64 ≤ F) : Gb4 F l i = some (incS l i) := by
 obtain ⟨F', rfl⟩ : ∃ F', F = F' + 1 := ⟨F - 1, by omega⟩; rfl
theorem pinc_r (l : List Int) (i : Int) {F : Nat} (hF : 64 ≤ F) : Gb1 F l i = some (incS l i) := by
 obtain ⟨F', rfl⟩ : ∃ F', F = F' + 1 := ⟨F - 1, by omega⟩; rfl
theorem prove_p {o : Kg} (hr : o.rng) (hl : o.Entries.length ≤ 50) {h : Kc} {i : Int} {F : Nat} (hF : 64 ≤ F) : Gk F o h i = some (provS o h i) := by
 unfold Gk provS; rw [valid_p hl hF]; simp only [ob_some, fH_p]; cases hv : vO o with
 | false => simp only [ifB_f, ifB_t, ob_some, Bool.false_and, Bool.false_eq_true, if_false]; rfl
 | true =>
  cases hf : fH h with
  | false => simp only [ifB_f, ifB_t, ob_some, Bool.false_and, Bool.and_false, Bool.false_eq_true, if_false]; rfl
  | true =>
   obtain ⟨s1, s2⟩ := fH_size hf; obtain ⟨k, hk⟩ : ∃ k : Nat, h.Size = k := ⟨h.Size.toNat, by omega⟩; simp only [ifB_t, ob_some, Bool.true_and, hk]; rw [hk] at s1 s2
   by_cases h1 : (k : Int) ≤ (o.Entries.length : Int)
   ·rw [show decide ((k : Int) > (o.Entries.length : Int)) = false from decide_eq_false (by omega), ifB_f, btw_p, w64_id (n := (k : Int) - 1) (by omega) (by omega)]; simp only [ob_some]
    by_cases h2 : 0 ≤ i ∧ i ≤ (k : Int) - 1
    ·rw [show decide (0 ≤ i ∧ i ≤ (k : Int) - 1) = true from decide_eq_true h2, show decide ((k : Int) ≤ (o.Entries.length : Int) ∧ 0 ≤ i ∧ i < (k : Int)) = true from decide_eq_true (by omega)]; obtain ⟨j, rfl⟩ : ∃ j : Nat, i = j := ⟨i.toNat, by omega⟩; have hL : (valsF o k).length = k := valsF_len (by omega); simp only [Bool.not_true, ifB_f]; rw [root_p hr (by omega) (by omega) hF, rootS_ok (by rw [hL]; omega) (by rw [hL]; omega)]; simp only [un2, ob_some, beq_self_eq_true, ifB_t, Int.toNat_natCast, if_true]
     by_cases h3 : h.Office = o.ID
     ·by_cases h4 : h.Root = rootF (valsF o k)
      ·rw [show (h.Office == o.ID) = true from beq_iff_eq.2 h3, show (rootF (valsF o k) == h.Root) = true from beq_iff_eq.2 h4.symm, show decide (h.Office = o.ID ∧ h.Root = rootF (valsF o k)) = true from decide_eq_true ⟨h3, h4⟩]; simp only [ifB_t, ob_some, Bool.not_true, ifB_f, if_true]; rw [show (0 : Int) = ((0 : Nat) : Int) from rfl, slI_ok (Nat.zero_le k) (by omega)]; simp only [ob_some, List.drop_zero]; rw [show ((0 : Nat) : Int) = 0 from rfl, coll_p (fun e he => hr.r_Entries e (List.mem_of_mem_take he)) (by rw [List.length_take]; omega) hF]; simp only [ob_some]; rw [pinc_p _ _ hF, show (List.map leafE (o.Entries.take k)) = valsF o k from rfl, incS_ok (by rw [hL]; omega) (by rw [hL]; omega)]; simp only [ob_some, un2, beq_self_eq_true, ifB_t]; rw [ixI_nat, eAt_get (by omega)]; rfl
      ·rw [show (h.Office == o.ID) = true from beq_iff_eq.2 h3, show (rootF (valsF o k) == h.Root) = false from beq_eq_false_iff_ne.2 fun e => h4 e.symm, show decide (h.Office = o.ID ∧ h.Root = rootF (valsF o k)) = false from decide_eq_false fun e => h4 e.2]; rfl
     ·rw [show (h.Office == o.ID) = false from beq_eq_false_iff_ne.2 h3, show decide (h.Office = o.ID ∧ h.Root = rootF (valsF o k)) = false from decide_eq_false fun e => h3 e.1]; rfl
    ·rw [show decide (0 ≤ i ∧ i ≤ (k : Int) - 1) = false from decide_eq_false h2, show decide ((k : Int) ≤ (o.Entries.length : Int) ∧ 0 ≤ i ∧ i < (k : Int)) = false from decide_eq_false (by omega)]; rfl
   ·rw [show decide ((k : Int) > (o.Entries.length : Int)) = true from decide_eq_true (by omega), show decide ((k : Int) ≤ (o.Entries.length : Int) ∧ 0 ≤ i ∧ i < (k : Int)) = false from decide_eq_false (by omega)]; rfl
theorem prove_r {o : Kg} (hr : o.rng) (hl : o.Entries.length ≤ 50) {h : Kc} {i : Int} {F : Nat} (hF : 64 ≤ F) : Gp F o h i = some (provS o h i) := by
 unfold Gp provS; rw [valid_r hl hF]; simp only [ob_some, fH_r]; cases hv : vO o with
 | false => simp only [ifB_f, ifB_t, ob_some, Bool.false_and, Bool.false_eq_true, if_false]; rfl
 | true =>
  cases hf : fH h with
  | false => simp only [ifB_f, ifB_t, ob_some, Bool.false_and, Bool.and_false, Bool.false_eq_true, if_false]; rfl
  | true =>
   obtain ⟨s1, s2⟩ := fH_size hf; obtain ⟨k, hk⟩ : ∃ k : Nat, h.Size = k := ⟨h.Size.toNat, by omega⟩; simp only [ifB_t, ob_some, Bool.true_and, hk]; rw [hk] at s1 s2
   by_cases h1 : (k : Int) ≤ (o.Entries.length : Int)
   ·rw [show decide ((k : Int) > (o.Entries.length : Int)) = false from decide_eq_false (by omega), ifB_f]
    by_cases h2 : 0 ≤ i ∧ i ≤ (k : Int) - 1
    ·rw [show decide (i < 0) = false from decide_eq_false (by omega), show decide (i ≥ (k : Int)) = false from decide_eq_false (by omega), show decide ((k : Int) ≤ (o.Entries.length : Int) ∧ 0 ≤ i ∧ i < (k : Int)) = true from decide_eq_true (by omega)]; obtain ⟨j, rfl⟩ : ∃ j : Nat, i = j := ⟨i.toNat, by omega⟩; have hL : (valsF o k).length = k := valsF_len (by omega); simp only [ob_some, ifB_f]; rw [vals_r hr (by omega) (by omega) hF]; simp only [ob_some]; rw [rroot_p _ hF, rootS_ok (by rw [hL]; omega) (by rw [hL]; omega)]; simp only [un2, ob_some, Int.toNat_natCast, if_true]
     by_cases h3 : h.Office = o.ID
     ·by_cases h4 : h.Root = rootF (valsF o k)
      ·rw [show (h.Office == o.ID) = true from beq_iff_eq.2 h3, show (h.Root == rootF (valsF o k)) = true from beq_iff_eq.2 h4, show decide (h.Office = o.ID ∧ h.Root = rootF (valsF o k)) = true from decide_eq_true ⟨h3, h4⟩]; simp only [ifB_t, ob_some, Bool.not_true, ifB_f, if_true]; rw [pinc_r _ _ hF, incS_ok (by rw [hL]; omega) (by rw [hL]; omega)]; simp only [ob_some]; rw [ixI_nat, eAt_get (by omega)]; rfl
      ·rw [show (h.Office == o.ID) = true from beq_iff_eq.2 h3, show (h.Root == rootF (valsF o k)) = false from beq_eq_false_iff_ne.2 h4, show decide (h.Office = o.ID ∧ h.Root = rootF (valsF o k)) = false from decide_eq_false fun e => h4 e.2]; rfl
     ·rw [show (h.Office == o.ID) = false from beq_eq_false_iff_ne.2 h3, show decide (h.Office = o.ID ∧ h.Root = rootF (valsF o k)) = false from decide_eq_false fun e => h3 e.1]; rfl
    ·rw [show decide ((k : Int) ≤ (o.Entries.length : Int) ∧ 0 ≤ i ∧ i < (k : Int)) = false from decide_eq_false (by omega)]
     by_cases h5 : i < 0
     ·rw [show decide (i < 0) = true from decide_eq_true h5]; rfl
     ·rw [show decide (i < 0) = false from decide_eq_false h5, show decide (i ≥ (k : Int)) = true from decide_eq_true (by omega)]; rfl
   ·rw [show decide ((k : Int) > (o.Entries.length : Int)) = true from decide_eq_true (by omega), show decide ((k : Int) ≤ (o.Entries.length : Int) ∧ 0 ≤ i ∧ i < (k : Int)) = false from decide_eq_false (by omega)]; rfl
def chkB (pub : Int) (r : Kk) : Bool := pubB pub && (fH r.Head && (vI r.Entry.Stamp && decide ((0 ≤ r.Index ∧ r.Index < r.Head.Size) ∧ r.Path.length ≤ 20)))
def chkS (pub : Int) (r : Kk) : Bool × Int :=
 if chkB pub r then ((verS pub r.Head.Sig (msgF r.Head)).1 && inclS r.Head.Root (leafE r.Entry) r.Index r.Head.Size r.Path, 0) else (false, 1)
theorem rightS_ok {pub : Int} {h : Kc} (h1 : pubB pub = true) (h2 : fH h = true) : rightS pub h = ((verS pub h.Sig (msgF h)).1, 0) := by unfold rightS; rw [h1, h2]; rfl
theorem pincl_p (a b i n : Int) (l : List Int) (hl : l.length ≤ 100) {F : Nat} (hF : 64 ≤ F) : Gb5 F a b i n l = some (inclS a b i n l) := by
 obtain ⟨F', rfl⟩ : ∃ F', F = F' + 1 := ⟨F - 1, by omega⟩; exact whenG_t (decide_eq_true (by omega))
theorem pincl_r (a b i n : Int) (l : List Int) (hl : l.length ≤ 100) {F : Nat} (hF : 64 ≤ F) : Gb2 F a b i n l = some (inclS a b i n l) := by
 obtain ⟨F', rfl⟩ : ∃ F', F = F' + 1 := ⟨F - 1, by omega⟩; exact whenG_t (decide_eq_true hl)
theorem check_p {pub : Int} {r : Kk} (q1 : inKd .i64 r.Head.Office) (q2 : inKd .i64 r.Head.Size) (q3 : r.Entry.rng) {F : Nat} (hF : 64 ≤ F) : Gi F pub r = some (chkS pub r) := by
 unfold Gi chkS chkB; rw [pub_p pub hF]; simp only [ob_some, fH_p, logged_p]; cases hp : pubB pub with
 | false => rfl
 | true =>
  cases hf : fH r.Head with
  | false => rfl
  | true =>
   cases hv : vI r.Entry.Stamp with
   | false => rfl
   | true =>
    obtain ⟨s1, s2⟩ := fH_size hf; simp only [ifB_t, ob_some, Bool.true_and, btw_p]; rw [w64_id (n := r.Head.Size - 1) (by omega) (by omega)]
    by_cases h1 : 0 ≤ r.Index ∧ r.Index < r.Head.Size
    ·rw [show decide (0 ≤ r.Index ∧ r.Index ≤ r.Head.Size - 1) = true from decide_eq_true (by omega)]
     by_cases h2 : r.Path.length ≤ 20
     ·rw [show decide ((r.Path.length : Int) > 20) = false from decide_eq_false (by omega), show decide ((0 ≤ r.Index ∧ r.Index < r.Head.Size) ∧ r.Path.length ≤ 20) = true from decide_eq_true ⟨h1, h2⟩]; simp only [ifB_t, ob_some, ifB_f, if_true]; rw [right_p q1 q2 hF, rightS_ok hp hf]; simp only [un2, ob_some]; rw [leaf_p q3 hF]; simp only [ob_some]; rw [pincl_p _ _ _ _ _ (by omega) hF]; cases (verS pub r.Head.Sig (msgF r.Head)).1 <;> rfl
     ·rw [show decide ((r.Path.length : Int) > 20) = true from decide_eq_true (by omega), show decide ((0 ≤ r.Index ∧ r.Index < r.Head.Size) ∧ r.Path.length ≤ 20) = false from decide_eq_false fun e => h2 e.2]; rfl
    ·rw [show decide (0 ≤ r.Index ∧ r.Index ≤ r.Head.Size - 1) = false from decide_eq_false (by omega), show decide ((0 ≤ r.Index ∧ r.Index < r.Head.Size) ∧ r.Path.length ≤ 20) = false from decide_eq_false fun e => h1 e.1]; rfl
theorem form_r (F : Nat) (r : Kk) : Gu F r = some (fH r.Head && (vI r.Entry.Stamp && decide ((0 ≤ r.Index ∧ r.Index < r.Head.Size) ∧ r.Path.length ≤ 20))) := by
 unfold Gu; simp only [fH_r, vI_r, ob_some]
 by_cases h1 : 0 ≤ r.Index <;> by_cases h2 : r.Index < r.Head.Size <;> by_cases h3 : r.Path.length ≤ 20 <;> cases fH r.Head <;> cases vI r.Entry.Stamp <;> simp [ifB, h1, h2, h3] <;> omega
theorem check_r {pub : Int} {r : Kk} (hr : r.rng) {F : Nat} (hF : 64 ≤ F) : Gam F pub r = some (chkS pub r) := by
 unfold Gam chkS chkB; rw [pub_r pub hF]; simp only [ob_some, form_r]; cases hp : pubB pub with
 | false => rfl
 | true =>
  cases hb : (fH r.Head && (vI r.Entry.Stamp && decide ((0 ≤ r.Index ∧ r.Index < r.Head.Size) ∧ r.Path.length ≤ 20))) with
  | false => rfl
  | true =>
   have hf : fH r.Head = true := by
    cases h : fH r.Head with
    | true => rfl
    | false => rw [h, Bool.false_and] at hb; cases hb
   have hL : r.Path.length ≤ 20 := by
    simp only [Bool.and_eq_true, decide_eq_true_eq] at hb; exact hb.2.2.2
   simp only [ifB_t, ob_some, Bool.not_true, ifB_f, Bool.and_self, if_true]; rw [right_r hr.r_Head.r_Office hr.r_Head.r_Size hr.r_Head.r_Root hF, rightS_ok hp hf]; simp only [un2, ob_some]; rw [leaf_r hr.r_Entry hF]; simp only [ob_some]; rw [pincl_r _ _ _ _ _ (by omega) hF]; cases (verS pub r.Head.Sig (msgF r.Head)).1 <;> rfl
theorem sameR_refl {r : Kk} (hl : r.Path.length ≤ 40) {F : Nat} (hF : 64 ≤ F) : G4 F r r = some true := by
 unfold G4; simp only [decide_true, ifB_t, beq_self_eq_true, Bool.not_true, ob_some, ifB_f]; rw [iter_all r.Path.length (fun _ => true) (.inl ()) (.inr ()) ?_ ?_ (by omega), if_pos (frB_iff.2 fun _ _ _ => rfl)]
 ·rfl
 ·rw [show decide ((r.Path.length : Int) < (r.Path.length : Int)) = false from decide_eq_false (by omega)]; rfl
 ·intro k hk; rw [show decide ((k : Int) < (r.Path.length : Int)) = true from decide_eq_true (by omega), ifB_t, ixI_get hk]; simp only [ob_some, beq_self_eq_true, ifB_t]; rw [w64_nat (by omega)]; rfl
theorem vO_iff {o : Kg} : vO o = true ↔ (∀ j, j < o.Entries.length → okAt o.Entries j = true) ∧ (1 ≤ o.ID ∧ o.ID ≤ 16) ∧ o.Entries.length ≤ 4096 := by
 unfold vO ordB; simp only [Bool.and_eq_true, decide_eq_true_eq, frB_iff]; constructor
 ·rintro ⟨h1, h2, h3⟩; exact ⟨fun j hj => h1 j (Nat.zero_le _) (by omega), h2, h3⟩
 ·rintro ⟨h1, h2, h3⟩; exact ⟨fun j _ hj => h1 j (by omega), h2, h3⟩
theorem isK_spec {k : Int} (h : isK k = true) : 1 ≤ k ∧ k < 1073741789 := of_decide_eq_true h
def pubF (k : Int) : Int := ((pw 4 k.toNat : Nat) : Int)
theorem pubF_eq {k : Int} (h : isK k = true) {F : Nat} (hF : 64 ≤ F) : Gak F k = some (pubF k) := by
 have := isK_spec h; unfold Gak; rw [(pow4 k (by omega) (by omega) hF).2]; rfl
theorem pubF_mem (k : Int) : memB (pubF k) = true := by
 have h1 := pub_pos k.toNat; have h2 := pw_lt 4 k.toNat; exact decide_eq_true ⟨by unfold pubF; omega, by unfold pubF; omega, by unfold pubF; rw [Int.toNat_natCast]; exact pub_mem _⟩
theorem pubF_pub {k : Int} (h : isK k = true) : pubB (pubF k) = true := by
 have hk := isK_spec h; have h1 := pub_ne (k := k.toNat) (by omega) (by omega); unfold pubB; rw [pubF_mem, show (pubF k == 1) = false from beq_eq_false_iff_ne.2 (by unfold pubF; omega)]; rfl
theorem sig_C {k m : Int} {l : List Int} (h : (isK k && isK m) = true) : (sigS k m l).1 = ⟨chF (pubF m) (pubF k) l, (m + chF (pubF m) (pubF k) l * k) % 1073741789⟩ := by unfold sigS; rw [h]; rfl
theorem sig_exp {k m : Int} {l : List Int} (h : (isK k && isK m) = true) : expB (sigS k m l).1 = true := by
 rw [sig_C h]; have := chF_rng (pubF m) (pubF k) l; refine decide_eq_true ⟨this, ?_⟩; constructor <;> simp only <;> omega
def headF (o : Kg) (n : Nat) (k m : Int) : Kc := ⟨o.ID, n, rootF (valsF o n), (sigS k m (msgF (bareF o n))).1⟩
theorem sign_ok {o : Kg} {n : Nat} {k m : Int} (hv : vO o = true) (h1 : 1 ≤ n) (h2 : n ≤ o.Entries.length) (h : (isK k && isK m) = true) : signS o n k m = (headF o n k m, 0) := by
 unfold signS; rw [hv, h, show decide (1 ≤ (n : Int) ∧ (n : Int) ≤ (o.Entries.length : Int)) = true from decide_eq_true (by omega)]; rfl
theorem eAt_rng {o : Kg} (hr : o.rng) {i : Nat} (hi : i < o.Entries.length) : (eAt o.Entries i).rng := hr.r_Entries _ (List.mem_of_getElem? (eAt_get hi))
theorem prov_len {o : Kg} {h : Kc} {i : Int} (hl : o.Entries.length ≤ 50) : (provS o h i).1.Path.length ≤ 12 := by
 unfold provS
 split
 ·split
  ·exact inclF_le (by unfold valsF; rw [lm_, List.length_take]; omega)
  ·exact Nat.zero_le _
 ·exact Nat.zero_le _
theorem un2_p {a b c : Type} (f : a → b → c) (p : a × b) : un2 f p = f p.1 p.2 := rfl
theorem pext (l : List Int) (i : Int) {F : Nat} (hF : 64 ≤ F) : Gb3 F l i = some (extS l i) := by
 obtain ⟨F', rfl⟩ : ∃ F', F = F' + 1 := ⟨F - 1, by omega⟩; rfl
theorem pgrow (a b m n : Int) (l : List Int) (hl : l.length ≤ 1000) {F : Nat} (hF : 64 ≤ F) : Gbu F a b m n l = some (growS a b m n l) := by
 obtain ⟨F', rfl⟩ : ∃ F', F = F' + 1 := ⟨F - 1, by omega⟩; exact whenG_t (decide_eq_true hl)
section
variable {ρ : Type}
def fdN (p : Nat → Bool) : Nat → Nat → Option Nat
 | 0, _ => none
 | m + 1, k => if p k = true then some k else fdN p m (k + 1)
theorem fdN_some {p : Nat → Bool} : ∀ {m k j : Nat}, fdN p m k = some j → (k ≤ j ∧ j < k + m) ∧ p j = true ∧ ∀ i, k ≤ i → i < j → p i = false
 | m + 1, k, j, h => by
  unfold fdN at h
  split at h
  ·next hp => cases h; exact ⟨⟨Nat.le_refl _, by omega⟩, hp, fun i h1 h2 => absurd h2 (by omega)⟩
  ·next hp =>
   obtain ⟨h1, h2, h3⟩ := fdN_some h; refine ⟨⟨by omega, by omega⟩, h2, fun i h4 h5 => ?_⟩; rcases Nat.eq_or_lt_of_le h4 with rfl | h4
   ·simpa using hp
   ·exact h3 i h4 h5
theorem iter_fd {f : Int → Option (Int ⊕ ρ)} (n : Nat) (p : Nat → Bool) (a : ρ) (b : Nat → ρ) (hn : f (n : Int) = some (.inr a)) (hk : ∀ k, k < n → f (k : Int) = some (if p k = true then .inr (b k) else .inl ((k + 1 : Nat) : Int))) {F : Nat} (hF : n < F) :
  iter f F 0 = some (match fdN p n 0 with | some k => b k | none => a) := by
 have key : ∀ (m k F : Nat), k + m = n → m < F → iter f F (k : Int) = some (match fdN p m k with | some k => b k | none => a) := by
  intro m
  induction m with
  | zero =>
   intro k F hm hF; obtain ⟨F', rfl⟩ : ∃ F', F = F' + 1 := ⟨F - 1, by omega⟩; have : k = n := by omega
   subst this; unfold iter; rw [hn]; rfl
  | succ m ih =>
   intro k F hm hF; obtain ⟨F', rfl⟩ : ∃ F', F = F' + 1 := ⟨F - 1, by omega⟩; unfold iter fdN; rw [hk k (by omega)]; cases hp : p k with
   | true => simp
   | false =>
    simp only [Bool.false_eq_true, if_false]; exact ih (k + 1) F' (by omega) (by omega)
 exact key n 0 F (by omega) hF
end
theorem pub4 : pubB 4 = true := by
 have := pubF_pub (k := 1) rfl
 rwa [show pubF 1 = 4 by unfold pubF; rw [show (1 : Int).toNat = 1 from rfl, pw_m]; rfl] at this
def digF (h : Kc) : Int := intsF (msgF h ++ [h.Sig.C, h.Sig.S])
theorem inI_dig {h : Kc} (hr : h.rng) : inI (msgF h ++ [h.Sig.C, h.Sig.S]) := inI_app (inI_msg hr.r_Office hr.r_Size) (inI_pair (inKd_i64 hr.r_Sig.r_C) (inKd_i64 hr.r_Sig.r_S))
theorem dig_p {h : Kc} (hr : h.rng) {F : Nat} (hF : 64 ≤ F) : Gq F h = some (digF h) := by
 unfold Gq; rw [low32 (inKd_u64 hr.r_Root).1 (inKd_u64 hr.r_Root).2]; have h := dints (inI_dig hr) (by simp [msgF]) hF; unfold msgF at h; simp only [List.cons_append, List.nil_append] at h; rw [h]; rfl
theorem dig_r {h : Kc} (hr : h.rng) {F : Nat} (hF : 64 ≤ F) : G6 F h = some (digF h) := by
 unfold G6; rw [low32 (inKd_u64 hr.r_Root).1 (inKd_u64 hr.r_Root).2]; have h := rints (inI_dig hr) (by simp [msgF]) hF; unfold msgF at h; simp only [List.cons_append, List.nil_append] at h; rw [h]; rfl
theorem rightS_e {pub : Int} {h : Kc} : ((rightS pub h).2 == 0) = (pubB pub && fH h) := by
 unfold rightS; cases pubB pub && fH h <;> rfl
theorem formed_p {h : Kc} (h1 : inKd .i64 h.Office) (h2 : inKd .i64 h.Size) {F : Nat} (hF : 64 ≤ F) : Gh F h = some (fH h) := by
 unfold Gh; rw [right_p h1 h2 hF]; rw [ob_some, un2_p]; rw [rightS_e, pub4]; rfl
theorem vals_c {o : Kg} (hr : o.rng) {n : Nat} (hn : n ≤ o.Entries.length) (hl : n ≤ 60) {F : Nat} (hF : 64 ≤ F) : Gab F o (n : Int) = some (valsF o n) := by
 unfold Gab; rw [show (0 : Int) = ((0 : Nat) : Int) from rfl, slI_ok (Nat.zero_le n) hn]; simp only [ob_some, List.drop_zero]; rw [show ((0 : Nat) : Int) = 0 from rfl, coll_p (fun e he => hr.r_Entries e (List.mem_of_mem_take he)) (by rw [List.length_take]; omega) hF]; rfl
def hasS (o : Kg) (h : Kc) : Bool := decide (h.Office = o.ID) && (decide (h.Size ≤ (o.Entries.length : Int)) && decide (rootF (valsF o h.Size.toNat) = h.Root))
theorem pRoot (l : List Int) {F : Nat} (hF : 64 ≤ F) : Gbv F l = some (rootS l) := by
 obtain ⟨F', rfl⟩ : ∃ F', F = F' + 1 := ⟨F - 1, by omega⟩; rfl
theorem has_p {o : Kg} (hr : o.rng) (hl : o.Entries.length ≤ 50) {h : Kc} (h1 : 1 ≤ h.Size) {F : Nat} (hF : 64 ≤ F) : Gx F o h = some (hasS o h) := by
 unfold Gx hasS
 by_cases ho : h.Office = o.ID
 ·rw [show (h.Office == o.ID) = true from beq_iff_eq.2 ho, show decide (h.Office = o.ID) = true from decide_eq_true ho]; obtain ⟨k, hk⟩ : ∃ k : Nat, h.Size = k := ⟨h.Size.toNat, by omega⟩; simp only [ifB_t, ob_some, hk]; rw [hk] at h1
  by_cases hs : (k : Int) ≤ (o.Entries.length : Int)
  ·rw [show decide ((k : Int) > (o.Entries.length : Int)) = false from decide_eq_false (by omega), show decide ((k : Int) ≤ (o.Entries.length : Int)) = true from decide_eq_true hs, ifB_f, vals_c hr (by omega) (by omega) hF]; have hL : (valsF o k).length = k := valsF_len (by omega); simp only [ob_some]; rw [pRoot _ hF, rootS_ok (by rw [hL]; omega) (by rw [hL]; omega)]; simp only [un2, ob_some, beq_self_eq_true, ifB_t, Int.toNat_natCast, Bool.true_and]; rfl
  ·rw [show decide ((k : Int) > (o.Entries.length : Int)) = true from decide_eq_true (by omega), show decide ((k : Int) ≤ (o.Entries.length : Int)) = false from decide_eq_false hs]; rfl
 ·rw [show (h.Office == o.ID) = false from beq_eq_false_iff_ne.2 ho, show decide (h.Office = o.ID) = false from decide_eq_false ho]; rfl
def zH : KHop := ⟨⟨0, 0, 0, ⟨0, 0⟩⟩, [], zR⟩
def fndS (l : List Kb) (n : Nat) (d : Int) : Option Nat := fdN (fun k => (eAt l k).Doc == d) n 0
def witC (a : Kg) (f o : Kc) (b : Kg) (h : Kc) : Bool := vO a && (vO b && (fH f && (fH o && (fH h && (!(a.ID == b.ID) && !decide (f.Size > o.Size))))))
def witS (a : Kg) (f o : Kc) (b : Kg) (h : Kc) : KHop × Int :=
 if witC a f o b h then
  (if hasS a f && (hasS a o && hasS b h) then
   (match fndS b.Entries h.Size.toNat (digF o) with
   | none => (zH, 4)
   | some i => (⟨o, extF (valsF a o.Size.toNat) f.Size.toNat true, ⟨h, i, eAt b.Entries i, inclF (valsF b h.Size.toNat) i⟩⟩, 0))
  else (zH, 33))
 else (zH, 1)
theorem hasS_spec {o : Kg} {h : Kc} (hh : hasS o h = true) : h.Office = o.ID ∧ h.Size ≤ (o.Entries.length : Int) ∧ rootF (valsF o h.Size.toNat) = h.Root := by
 simp only [hasS, Bool.and_eq_true, decide_eq_true_eq] at hh; exact hh
theorem provS_has {o : Kg} {h : Kc} {i : Nat} (hv : vO o = true) (hf : fH h = true) (hh : hasS o h = true) (hi : (i : Int) < h.Size) : provS o h i = (⟨h, i, eAt o.Entries i, inclF (valsF o h.Size.toNat) i⟩, 0) := by
 obtain ⟨h1, h2, h3⟩ := hasS_spec hh; unfold provS; rw [hv, hf, show decide (h.Size ≤ (o.Entries.length : Int) ∧ 0 ≤ (i : Int) ∧ (i : Int) < h.Size) = true from decide_eq_true ⟨h2, by omega, hi⟩, show decide (h.Office = o.ID ∧ h.Root = rootF (valsF o h.Size.toNat)) = true from decide_eq_true ⟨h1, h3.symm⟩]; rfl
theorem wit_p {a b : Kg} (ha : a.rng) (hb : b.rng) (la : a.Entries.length ≤ 50) (lb : b.Entries.length ≤ 50) {f o h : Kc} (hf : f.rng) (ho : o.rng) (hh : h.rng) {F : Nat} (hF : 64 ≤ F) : Gas F a f o b h = some (witS a f o b h) := by
 unfold Gas witS witC; rw [valid_p la hF, valid_p lb hF, formed_p hf.r_Office hf.r_Size hF, formed_p ho.r_Office ho.r_Size hF, formed_p hh.r_Office hh.r_Size hF]; simp only [ob_some]; cases h1 : vO a with
 | false => rfl
 | true =>
 cases h2 : vO b with
 | false => rfl
 | true =>
 cases h3 : fH f with
 | false => rfl
 | true =>
 cases h4 : fH o with
 | false => rfl
 | true =>
 cases h5 : fH h with
 | false => rfl
 | true =>
 cases h6 : (a.ID == b.ID) with
 | true => rfl
 | false =>
 cases h7 : decide (f.Size > o.Size) with
 | true => rfl
 | false =>
  simp only [ifB_t, ifB_f, ob_some, Bool.true_and, Bool.not_false, if_true]; obtain ⟨s1, s2⟩ := fH_size h3; obtain ⟨t1, t2⟩ := fH_size h4; obtain ⟨u1, u2⟩ := fH_size h5; rw [has_p ha la s1 hF, has_p ha la t1 hF, has_p hb lb u1 hF]; simp only [ob_some]; cases h8 : hasS a f with
  | false => rfl
  | true =>
  cases h9 : hasS a o with
  | false => rfl
  | true =>
  cases h10 : hasS b h with
  | false => rfl
  | true =>
   simp only [ifB_t, ifB_f, ob_some, Bool.not_true, Bool.and_self, if_true]; obtain ⟨_, q1, _⟩ := hasS_spec h10; obtain ⟨_, q2, _⟩ := hasS_spec h9; obtain ⟨k, hk⟩ : ∃ k : Nat, h.Size = k := ⟨h.Size.toNat, by omega⟩; obtain ⟨n, hn⟩ : ∃ n : Nat, o.Size = n := ⟨o.Size.toNat, by omega⟩; obtain ⟨m, hm⟩ : ∃ m : Nat, f.Size = m := ⟨f.Size.toNat, by omega⟩; have h7' := of_decide_eq_false h7; rw [dig_p ho hF]; simp only [ob_some]; have hrec : ∀ i : Nat, i < k → Gk F b h i = some (⟨h, i, eAt b.Entries i, inclF (valsF b k) i⟩, 0) := fun i hi => by
    have := provS_has (i := i) h2 h5 h10 (by omega); rw [prove_p hb lb hF, this, hk]; rfl
   rw [hk] at q1 u1; rw [hn] at q2 t1; rw [hk, show (0 : Int) = ((0 : Nat) : Int) from rfl, slI_ok (Nat.zero_le k) (by omega)]; simp only [ob_some, List.drop_zero, Int.toNat_natCast]; have hlen : (b.Entries.take k).length = k := by rw [List.length_take]; omega
   rw [show ((0 : Nat) : Int) = 0 from rfl, iter_fd k (fun j => (eAt b.Entries j).Doc == digF o) (.inl ()) (fun j => .inr (j : Int)) ?_ ?_ (by omega)]
   ·show _ = some (match fndS b.Entries k (digF o) with | none => _ | some i => _)
    unfold fndS; cases hfd : fdN (fun j => (eAt b.Entries j).Doc == digF o) k 0 with
    | none => rfl
    | some i =>
     obtain ⟨⟨_, hi⟩, _⟩ := fdN_some hfd; simp only [ob_some, Sum.elim_inr]; rw [show decide ((i : Int) < 0) = false from decide_eq_false (by omega), ifB_f, hn, vals_c ha (by omega) (by omega) hF]; simp only [ob_some]; have hL : (valsF a n).length = n := valsF_len (by omega); rw [hm] at h7' s1 ⊢; rw [hn] at h7'; rw [pext _ _ hF, extS_ok (by omega) (by rw [hL]; omega) (by rw [hL]; omega), hrec i (by omega)]; rfl
   ·rw [hlen, show decide ((k : Int) < ((k : Nat) : Int)) = false from decide_eq_false (by omega)]; rfl
   ·intro j hj; rw [hlen, show decide ((j : Int) < ((k : Nat) : Int)) = true from decide_eq_true (by omega), ifB_t, ixI_nat, List.getElem?_take, if_pos hj, eAt_get (by omega)]; simp only [ob_some]; rw [w64_nat (by omega)]; cases (eAt b.Entries j).Doc == digF o <;> rfl
def kAt (l : List Int) (k : Nat) : Int := l.getD k 0
theorem kAt_get {l : List Int} {k : Nat} (h : k < l.length) : l[k]? = some (kAt l k) := by
 unfold kAt; rw [List.getD_eq_getElem?_getD, List.getElem?_eq_getElem h]; rfl
def sgnS (l : List Int) (h : Kc) : Bool := decide (1 ≤ h.Office ∧ h.Office ≤ (l.length : Int)) && (!(kAt l (h.Office - 1).toNat == 0) && (rightS (kAt l (h.Office - 1).toNat) h).1)
theorem sgn_p {l : List Int} {h : Kc} (h1 : inKd .i64 h.Office) (h2 : inKd .i64 h.Size) {F : Nat} (hF : 64 ≤ F) : Gy F l h = some (sgnS l h) := by
 unfold Gy sgnS
 by_cases ho : 1 ≤ h.Office
 ·by_cases hl : h.Office ≤ (l.length : Int)
  ·rw [show decide (h.Office < 1) = false from decide_eq_false (by omega), show decide (h.Office > (l.length : Int)) = false from decide_eq_false (by omega), show decide (1 ≤ h.Office ∧ h.Office ≤ (l.length : Int)) = true from decide_eq_true ⟨ho, hl⟩]; have hi := inKd_i64 h1; rw [w64_id (n := h.Office - 1) (by omega) (by omega), show h.Office - 1 = (((h.Office - 1).toNat : Nat) : Int) by omega, ixI_nat, kAt_get (by omega)]; simp only [ifB_f, ob_some, Int.toNat_natCast, Bool.true_and]; cases (kAt l (h.Office - 1).toNat == 0) with
   | true => rfl
   | false =>
    rw [right_p h1 h2 hF]; rfl
  ·rw [show decide (h.Office < 1) = false from decide_eq_false (by omega), show decide (h.Office > (l.length : Int)) = true from decide_eq_true (by omega), show decide (1 ≤ h.Office ∧ h.Office ≤ (l.length : Int)) = false from decide_eq_false fun e => hl e.2]; rfl
 ·rw [show decide (h.Office < 1) = true from decide_eq_true (by omega), show decide (1 ≤ h.Office ∧ h.Office ≤ (l.length : Int)) = false from decide_eq_false fun e => ho e.1]; rfl
def okK (k : Int) : Bool := (k == 0) || pubB k
def rgtS (l : List Int) : Bool := decide (l.length ≤ 16) && frB (fun j => okK (kAt l j)) l.length 0
theorem bad_p (k : Int) {F : Nat} (hF : 64 ≤ F) : Gau F k = some (!okK k) := by
 unfold Gau okK; rw [right_p (inKd_w (by decide) (by decide)) (inKd_w (by decide) (by decide)) hF]; rw [ob_some, un2_p]; rw [rightS_e, show fH ⟨1, 1, 0, ⟨0, 0⟩⟩ = true from rfl]; cases (k == 0) <;> cases pubB k <;> rfl
theorem fd_fr {p : Nat → Bool} : ∀ {m k : Nat}, frB p m k = (fdN (fun j => !p j) m k).isNone
 | 0, _ => rfl
 | m + 1, k => by
  unfold frB fdN; cases p k with
  | true => simp [fd_fr]
  | false => simp
theorem rgt_p {l : List Int} (hl : l.length ≤ 40) {F : Nat} (hF : 64 ≤ F) : Gat F l = some (rgtS l) := by
 unfold Gat rgtS
 by_cases h16 : l.length ≤ 16
 ·rw [show decide ((l.length : Int) ≤ 16) = true from decide_eq_true (by omega), show decide (l.length ≤ 16) = true from decide_eq_true h16, ifB_t]; rw [iter_fd l.length (fun j => !okK (kAt l j)) (.inl ()) (fun j => .inr (j : Int)) ?_ ?_ (by omega)]
  ·rw [fd_fr]; cases hfd : fdN (fun j => !okK (kAt l j)) l.length 0 with
   | none => rfl
   | some i =>
    simp only [ob_some, Sum.elim_inr]; rw [show decide ((i : Int) ≥ 0) = true from decide_eq_true (by omega)]; rfl
  ·rw [show decide ((l.length : Int) < (l.length : Int)) = false from decide_eq_false (by omega)]; rfl
  ·intro j hj; rw [show decide ((j : Int) < (l.length : Int)) = true from decide_eq_true (by omega), ifB_t, ixI_nat, kAt_get hj]; simp only [ob_some]; rw [bad_p _ hF, w64_nat (by omega)]; cases okK (kAt l j) <;> rfl
 ·rw [show decide ((l.length : Int) ≤ 16) = false from decide_eq_false (by omega), show decide (l.length ≤ 16) = false from decide_eq_false h16]; rfl
def recB (r : Kk) : Bool := fH r.Head && (vI r.Entry.Stamp && decide ((0 ≤ r.Index ∧ r.Index < r.Head.Size) ∧ r.Path.length ≤ 20))
theorem chkS_e {pub : Int} {r : Kk} : ((chkS pub r).2 == 0) = (pubB pub && recB r) := by
 unfold chkS chkB recB; cases pubB pub && (fH r.Head && (vI r.Entry.Stamp && decide ((0 ≤ r.Index ∧ r.Index < r.Head.Size) ∧ r.Path.length ≤ 20))) <;> rfl
def hopC (l : List Int) (f : Kc) (h : KHop) : Bool := recB h.By && (rgtS l && (fH f && (fH h.Of && decide (h.Grow.length ≤ 20))))
def hopB (l : List Int) (f : Kc) (h : KHop) : Bool :=
 (sgnS l f && (sgnS l h.Of && sgnS l h.By.Head)) && ((decide (h.Of.Office = f.Office) && !(h.By.Head.Office == f.Office)) && (growS f.Root h.Of.Root f.Size h.Of.Size h.Grow && ((h.By.Entry.Doc == digF h.Of) && inclS h.By.Head.Root (leafE h.By.Entry) h.By.Index h.By.Head.Size h.By.Path)))
def hopS (l : List Int) (f : Kc) (h : KHop) : Bool × Int := if hopC l f h then (hopB l f h, 0) else (false, 1)
theorem hop_p {l : List Int} {f : Kc} {h : KHop} (hl : l.length ≤ 40) (hf : f.rng) (ho : h.Of.rng) (hb : h.By.Head.rng) (he : h.By.Entry.rng) {F : Nat} (hF : 64 ≤ F) : Gar F l f h = some (hopS l f h) := by
 unfold Gar hopS hopC; rw [check_p hb.r_Office hb.r_Size he hF]; rw [ob_some, un2_p]; rw [chkS_e, pub4, Bool.true_and]; cases h1 : recB h.By with
 | false => rfl
 | true =>
 rw [ifB_t, rgt_p hl hF, formed_p hf.r_Office hf.r_Size hF, formed_p ho.r_Office ho.r_Size hF]; simp only [ob_some]; cases h2 : rgtS l with
 | false => rfl
 | true =>
 cases h3 : fH f with
 | false => rfl
 | true =>
 cases h4 : fH h.Of with
 | false => rfl
 | true =>
 by_cases h5 : h.Grow.length ≤ 20
 ·rw [show decide ((h.Grow.length : Int) > 20) = false from decide_eq_false (by omega), show decide (h.Grow.length ≤ 20) = true from decide_eq_true h5]; simp only [ifB_t, ifB_f, ob_some, Bool.and_self, if_true]; unfold hopB; rw [sgn_p hf.r_Office hf.r_Size hF, sgn_p ho.r_Office ho.r_Size hF, sgn_p hb.r_Office hb.r_Size hF]; simp only [ob_some]; cases h6 : sgnS l f with
  | false => rfl
  | true =>
  cases h7 : sgnS l h.Of with
  | false => rfl
  | true =>
  cases h8 : sgnS l h.By.Head with
  | false => rfl
  | true =>
  by_cases h9 : h.Of.Office = f.Office
  ·cases h10 : (h.By.Head.Office == f.Office) with
   | true => rw [show (h.Of.Office == f.Office) = true from beq_iff_eq.2 h9, show decide (h.Of.Office = f.Office) = true from decide_eq_true h9]; rfl
   | false =>
    rw [show (h.Of.Office == f.Office) = true from beq_iff_eq.2 h9, show decide (h.Of.Office = f.Office) = true from decide_eq_true h9]; simp only [ifB_t, ob_some, Bool.not_false, Bool.and_self, Bool.true_and]; rw [pgrow _ _ _ _ _ (by omega) hF]; simp only [ob_some]; cases growS f.Root h.Of.Root f.Size h.Of.Size h.Grow with
    | false => rfl
    | true =>
     simp only [ifB_t, ob_some, Bool.true_and]; rw [dig_p ho hF]; simp only [ob_some]; cases (h.By.Entry.Doc == digF h.Of) with
     | false => rfl
     | true =>
      have h8' := h8; simp only [sgnS, Bool.and_eq_true, decide_eq_true_eq] at h8'; obtain ⟨⟨o1, o2⟩, _, o4⟩ := h8'; have hi := inKd_i64 hb.r_Office; rw [ifB_t, w64_id (n := h.By.Head.Office - 1) (by omega) (by omega), show h.By.Head.Office - 1 = (((h.By.Head.Office - 1).toNat : Nat) : Int) by omega, ixI_nat, kAt_get (by omega)]; simp only [ob_some]; rw [check_p hb.r_Office hb.r_Size he hF]; rw [ob_some, un2_p]; have hpub : pubB (kAt l (h.By.Head.Office - 1).toNat) = true ∧ (verS (kAt l (h.By.Head.Office - 1).toNat) h.By.Head.Sig (msgF h.By.Head)).1 = true := by
       unfold rightS at o4
       split at o4
       ·next hc => simp only [Bool.and_eq_true] at hc; exact ⟨hc.1, o4⟩
       ·cases o4
      have hch : chkS (kAt l (h.By.Head.Office - 1).toNat) h.By = ((verS (kAt l (h.By.Head.Office - 1).toNat) h.By.Head.Sig (msgF h.By.Head)).1 && inclS h.By.Head.Root (leafE h.By.Entry) h.By.Index h.By.Head.Size h.By.Path, 0) := by
       unfold chkS chkB; rw [hpub.1]; unfold recB at h1; rw [h1]; rfl
      rw [hch, hpub.2]; simp only [Bool.true_and]; cases inclS h.By.Head.Root (leafE h.By.Entry) h.By.Index h.By.Head.Size h.By.Path <;> rfl
  ·rw [show (h.Of.Office == f.Office) = false from beq_eq_false_iff_ne.2 h9, show decide (h.Of.Office = f.Office) = false from decide_eq_false h9]; rfl
 ·rw [show decide ((h.Grow.length : Int) > 20) = true from decide_eq_true (by omega), show decide (h.Grow.length ≤ 20) = false from decide_eq_false h5]; rfl
theorem headF_rng {o : Kg} (hr : o.rng) {n : Nat} (hn : n ≤ 5000) {k m : Int} (h : (isK k && isK m) = true) : (headF o n k m).rng := by
 have he := of_decide_eq_true (sig_exp (l := msgF (bareF o n)) h); have hR := rootF_rng (valsF o n); exact ⟨hr.r_ID, inKd_w (by show -9223372036854775808 ≤ (n : Int); omega) (by show (n : Int) ≤ 9223372036854775807; omega), inKd_wu hR.1 hR.2, ⟨inKd_w (by show -9223372036854775808 ≤ (sigS k m (msgF (bareF o n))).1.C; omega) (by show (sigS k m (msgF (bareF o n))).1.C ≤ 9223372036854775807; omega), inKd_w (by show -9223372036854775808 ≤ (sigS k m (msgF (bareF o n))).1.S; omega) (by show (sigS k m (msgF (bareF o n))).1.S ≤ 9223372036854775807; omega)⟩⟩
theorem of_r {o : Kg} (hr : o.rng) (hl : o.Entries.length ≤ 50) {h : Kc} (h1 : 1 ≤ h.Size) {F : Nat} (hF : 64 ≤ F) : G8 F o h = some (hasS o h) := by
 unfold G8 hasS
 by_cases ho : h.Office = o.ID
 ·rw [show (h.Office == o.ID) = true from beq_iff_eq.2 ho, show decide (h.Office = o.ID) = true from decide_eq_true ho]; obtain ⟨k, hk⟩ : ∃ k : Nat, h.Size = k := ⟨h.Size.toNat, by omega⟩; simp only [ifB_t, ob_some, hk]; rw [hk] at h1
  by_cases hs : (k : Int) ≤ (o.Entries.length : Int)
  ·rw [show decide ((k : Int) > (o.Entries.length : Int)) = false from decide_eq_false (by omega), show decide ((k : Int) ≤ (o.Entries.length : Int)) = true from decide_eq_true hs, ifB_f, vals_r hr (by omega) (by omega) hF]; have hL : (valsF o k).length = k := valsF_len (by omega); simp only [ob_some]; rw [rroot_p _ hF, rootS_ok (by rw [hL]; omega) (by rw [hL]; omega)]; simp only [un2, ob_some, Int.toNat_natCast, Bool.true_and]; rfl
  ·rw [show decide ((k : Int) > (o.Entries.length : Int)) = true from decide_eq_true (by omega), show decide ((k : Int) ≤ (o.Entries.length : Int)) = false from decide_eq_false hs]; rfl
 ·rw [show (h.Office == o.ID) = false from beq_eq_false_iff_ne.2 ho, show decide (h.Office = o.ID) = false from decide_eq_false ho]; rfl
theorem rext (l : List Int) (i : Int) {F : Nat} (hF : 64 ≤ F) : Gb0 F l i = some (extS l i) := by
 obtain ⟨F', rfl⟩ : ∃ F', F = F' + 1 := ⟨F - 1, by omega⟩; rfl
theorem rgrow (a b m n : Int) (l : List Int) (hl : l.length ≤ 100) {F : Nat} (hF : 64 ≤ F) : Gal F a b m n l = some (growS a b m n l) := by
 obtain ⟨F', rfl⟩ : ∃ F', F = F' + 1 := ⟨F - 1, by omega⟩; exact whenG_t (decide_eq_true (by omega))
theorem wit_r {a b : Kg} (ha : a.rng) (hb : b.rng) (la : a.Entries.length ≤ 50) (lb : b.Entries.length ≤ 50) {f o h : Kc} (hf : f.rng) (ho : o.rng) (hh : h.rng) {F : Nat} (hF : 64 ≤ F) : Gbi F a f o b h = some (witS a f o b h) := by
 unfold Gbi witS witC; rw [valid_r la hF, valid_r lb hF, fH_r, fH_r, fH_r]; simp only [ob_some]; cases h1 : vO a with
 | false => rfl
 | true =>
 cases h2 : vO b with
 | false => rfl
 | true =>
 cases h3 : fH f with
 | false => rfl
 | true =>
 cases h4 : fH o with
 | false => rfl
 | true =>
 cases h5 : fH h with
 | false => rfl
 | true =>
 cases h6 : (a.ID == b.ID) with
 | true => rfl
 | false =>
 cases h7 : decide (f.Size > o.Size) with
 | true => rfl
 | false =>
  simp only [ifB_t, ifB_f, ob_some, Bool.true_and, Bool.not_false, if_true]; obtain ⟨s1, s2⟩ := fH_size h3; obtain ⟨t1, t2⟩ := fH_size h4; obtain ⟨u1, u2⟩ := fH_size h5; rw [of_r ha la s1 hF, of_r ha la t1 hF, of_r hb lb u1 hF]; simp only [ob_some]; cases h8 : hasS a f with
  | false => rfl
  | true =>
  cases h9 : hasS a o with
  | false => rfl
  | true =>
  cases h10 : hasS b h with
  | false => rfl
  | true =>
   simp only [ifB_t, ifB_f, ob_some, Bool.not_true, Bool.and_self, if_true]; obtain ⟨_, q1, _⟩ := hasS_spec h10; obtain ⟨_, q2, _⟩ := hasS_spec h9; obtain ⟨k, hk⟩ : ∃ k : Nat, h.Size = k := ⟨h.Size.toNat, by omega⟩; obtain ⟨n, hn⟩ : ∃ n : Nat, o.Size = n := ⟨o.Size.toNat, by omega⟩; obtain ⟨m, hm⟩ : ∃ m : Nat, f.Size = m := ⟨f.Size.toNat, by omega⟩; have h7' := of_decide_eq_false h7; rw [dig_r ho hF]; simp only [ob_some]; have hrec : ∀ i : Nat, i < k → Gp F b h i = some (⟨h, i, eAt b.Entries i, inclF (valsF b k) i⟩, 0) := fun i hi => by
    have := provS_has (i := i) h2 h5 h10 (by omega); rw [prove_r hb lb hF, this, hk]; rfl
   rw [hk] at q1 u1; rw [hn] at q2 t1; rw [hk, hn, hm]; simp only [Int.toNat_natCast]; rw [hm, hn] at h7'; have hL : (valsF a n).length = n := valsF_len (by omega); rw [iter_fd k (fun j => (eAt b.Entries j).Doc == digF o) (.inl ()) (fun j => .inr (⟨o, extF (valsF a n) m true, ⟨h, j, eAt b.Entries j, inclF (valsF b k) j⟩⟩ : KHop)) ?_ ?_ (by omega)]
   ·show _ = some (match fndS b.Entries k (digF o) with | none => _ | some i => _)
    unfold fndS; cases hfd : fdN (fun j => (eAt b.Entries j).Doc == digF o) k 0 with
    | none => rfl
    | some i => rfl
   ·rw [show decide ((k : Int) < ((k : Nat) : Int)) = false from decide_eq_false (by omega)]; rfl
   ·intro j hj; rw [show decide ((j : Int) < ((k : Nat) : Int)) = true from decide_eq_true (by omega), ifB_t, ixI_nat, eAt_get (by omega)]; simp only [ob_some]; rw [w64_nat (by omega), hrec j hj, vals_r ha (by omega) (by omega) hF]; simp only [ob_some]; rw [rext _ _ hF, extS_ok (by omega) (by rw [hL]; omega) (by rw [hL]; omega)]; cases (eAt b.Entries j).Doc == digF o <;> rfl
theorem pubs_r {l : List Int} (hl : l.length ≤ 40) {F : Nat} (hF : 64 ≤ F) : Gap F l = some (rgtS l) := by
 unfold Gap rgtS; rw [iter_all l.length (fun j => okK (kAt l j)) (.inl ()) (.inr ()) ?_ ?_ (by omega)]
 ·rw [show decide ((l.length : Int) ≤ 16) = decide (l.length ≤ 16) from decide_eq_decide.2 (by omega)]; cases frB (fun j => okK (kAt l j)) l.length 0 <;> cases decide (l.length ≤ 16) <;> rfl
 ·rw [show decide ((l.length : Int) < (l.length : Int)) = false from decide_eq_false (by omega)]; rfl
 ·intro j hj; rw [show decide ((j : Int) < (l.length : Int)) = true from decide_eq_true (by omega), ifB_t, ixI_nat, kAt_get hj]; simp only [ob_some]; rw [pub_r _ hF, w64_nat (by omega)]; unfold okK; cases (kAt l j == 0) <;> cases pubB (kAt l j) <;> rfl
theorem sgn_r {l : List Int} {h : Kc} (hh : h.rng) (h1 : 1 ≤ h.Office) {F : Nat} (hF : 64 ≤ F) : G7 F l h = some (sgnS l h) := by
 unfold G7 sgnS
 by_cases hl : h.Office ≤ (l.length : Int)
 ·rw [show decide (h.Office > (l.length : Int)) = false from decide_eq_false (by omega), show decide (1 ≤ h.Office ∧ h.Office ≤ (l.length : Int)) = true from decide_eq_true ⟨h1, hl⟩]; have hi := inKd_i64 hh.r_Office; rw [w64_id (n := h.Office - 1) (by omega) (by omega), show h.Office - 1 = (((h.Office - 1).toNat : Nat) : Int) by omega, ixI_nat, kAt_get (by omega)]; simp only [ifB_f, ob_some, Int.toNat_natCast, Bool.true_and]; cases (kAt l (h.Office - 1).toNat == 0) with
  | true => rfl
  | false =>
   rw [right_r hh.r_Office hh.r_Size hh.r_Root hF]; rfl
 ·rw [show decide (h.Office > (l.length : Int)) = true from decide_eq_true (by omega), show decide (1 ≤ h.Office ∧ h.Office ≤ (l.length : Int)) = false from decide_eq_false fun e => hl e.2]; rfl
theorem fH_off {h : Kc} (hh : fH h = true) : 1 ≤ h.Office := (of_decide_eq_true hh).1.1
theorem growS_no {a b m n : Int} {l : List Int} (h : n < m) : growS a b m n l = false := by
 unfold growS; rw [if_pos (by omega)]
theorem hop_r {l : List Int} {f : Kc} {h : KHop} (hl : l.length ≤ 40) (hf : f.rng) (ho : h.Of.rng) (hb : h.By.rng) {F : Nat} (hF : 64 ≤ F) : Gbg F l f h = some (hopS l f h) := by
 unfold Gbg hopS hopC; have hhop : Gw F h = some (fH h.Of && (recB h.By && decide (h.Grow.length ≤ 20))) := by
  unfold Gw; rw [fH_r, form_r, show decide ((h.Grow.length : Int) ≤ 20) = decide (h.Grow.length ≤ 20) from decide_eq_decide.2 (by omega)]; simp only [ob_some]; rw [show (fH h.By.Head && (vI h.By.Entry.Stamp && decide ((0 ≤ h.By.Index ∧ h.By.Index < h.By.Head.Size) ∧ h.By.Path.length ≤ 20))) = recB h.By from rfl]; cases fH h.Of <;> cases recB h.By <;> cases decide (h.Grow.length ≤ 20) <;> rfl
 rw [pubs_r hl hF, fH_r, hhop]; simp only [ob_some]; cases h2 : rgtS l with
 | false => cases recB h.By <;> rfl
 | true =>
 cases h3 : fH f with
 | false => cases recB h.By <;> rfl
 | true =>
 cases h4 : fH h.Of with
 | false => cases recB h.By <;> rfl
 | true =>
 cases h1 : recB h.By with
 | false => rfl
 | true =>
 by_cases h5 : h.Grow.length ≤ 20
 ·rw [show decide (h.Grow.length ≤ 20) = true from decide_eq_true h5]; simp only [ifB_t, ifB_f, ob_some, Bool.and_self, if_true, Bool.not_true]; have hbh : fH h.By.Head = true := by simp only [recB, Bool.and_eq_true] at h1; exact h1.1
  unfold hopB; rw [sgn_r hf (fH_off h3) hF, sgn_r ho (fH_off h4) hF, sgn_r hb.r_Head (fH_off hbh) hF]; simp only [ob_some]; cases h6 : sgnS l f with
  | false => rfl
  | true =>
  cases h7 : sgnS l h.Of with
  | false => rfl
  | true =>
  cases h8 : sgnS l h.By.Head with
  | false => rfl
  | true =>
  by_cases h9 : h.Of.Office = f.Office
  ·rw [show (h.Of.Office == f.Office) = true from beq_iff_eq.2 h9, show decide (h.Of.Office = f.Office) = true from decide_eq_true h9, h9]
   by_cases hsz : h.Of.Size < f.Size
   ·rw [show decide (h.Of.Size < f.Size) = true from decide_eq_true hsz, growS_no hsz]; cases (h.By.Head.Office == f.Office) <;> rfl
   ·rw [show decide (h.Of.Size < f.Size) = false from decide_eq_false hsz]; cases h10 : (h.By.Head.Office == f.Office) with
    | true => rfl
    | false =>
     simp only [ifB_t, ifB_f, ob_some, Bool.not_false, Bool.and_self, Bool.true_and]; have h8' := h8; simp only [sgnS, Bool.and_eq_true, decide_eq_true_eq] at h8'; obtain ⟨⟨o1, o2⟩, _, o4⟩ := h8'; have hi := inKd_i64 hb.r_Head.r_Office; rw [rgrow _ _ _ _ _ (by omega) hF, w64_id (n := h.By.Head.Office - 1) (by omega) (by omega), show h.By.Head.Office - 1 = (((h.By.Head.Office - 1).toNat : Nat) : Int) by omega, ixI_nat, kAt_get (by omega)]; simp only [ob_some]; rw [check_r hb hF, dig_r ho hF, ob_some, un2_p, ob_some]; have hpub : pubB (kAt l (h.By.Head.Office - 1).toNat) = true ∧ (verS (kAt l (h.By.Head.Office - 1).toNat) h.By.Head.Sig (msgF h.By.Head)).1 = true := by
      unfold rightS at o4
      split at o4
      ·next hc => simp only [Bool.and_eq_true] at hc; exact ⟨hc.1, o4⟩
      ·cases o4
     have hch : chkS (kAt l (h.By.Head.Office - 1).toNat) h.By = ((verS (kAt l (h.By.Head.Office - 1).toNat) h.By.Head.Sig (msgF h.By.Head)).1 && inclS h.By.Head.Root (leafE h.By.Entry) h.By.Index h.By.Head.Size h.By.Path, 0) := by
      unfold chkS chkB; rw [hpub.1]; unfold recB at h1; rw [h1]; rfl
     rw [hch, hpub.2]; simp only [Bool.true_and]; cases growS f.Root h.Of.Root f.Size h.Of.Size h.Grow <;> cases inclS h.By.Head.Root (leafE h.By.Entry) h.By.Index h.By.Head.Size h.By.Path <;> cases (h.By.Entry.Doc == digF h.Of) <;> rfl
  ·rw [show (h.Of.Office == f.Office) = false from beq_eq_false_iff_ne.2 h9, show decide (h.Of.Office = f.Office) = false from decide_eq_false h9]; rfl
 ·rw [show decide (h.Grow.length ≤ 20) = false from decide_eq_false h5]; rfl
theorem same03 {l : List Int} (hl : l.length ≤ 60) {F : Nat} (hF : 64 ≤ F) : Gba F l l = some true := by
 unfold Gba; rw [show ((l.length : Int) == (l.length : Int)) = true from beq_self_eq_true _, ifB_t]; rw [iter_all l.length (fun _ => true) (.inl ()) (.inr ()) ?_ ?_ (by omega), if_pos (frB_iff.2 fun _ _ _ => rfl)]
 ·rfl
 ·rw [show decide ((l.length : Int) < (l.length : Int)) = false from decide_eq_false (by omega)]; rfl
 ·intro k hk; rw [show decide ((k : Int) < (l.length : Int)) = true from decide_eq_true (by omega), ifB_t, ixI_nat, kAt_get hk]; simp only [ob_some, beq_self_eq_true, ifB_t]; rw [w64_nat (by omega)]; rfl
theorem same26 {h : KHop} (h1 : h.Grow.length ≤ 40) (h2 : h.By.Path.length ≤ 40) {F : Nat} (hF : 64 ≤ F) : Gbh F h h = some true := by
 unfold Gbh; rw [same03 (by omega) hF, sameR_refl h2 hF]; simp only [ob_some, decide_true, ifB_t]
theorem witS_len {a b : Kg} {f o h : Kc} (la : a.Entries.length ≤ 50) (lb : b.Entries.length ≤ 50) : (witS a f o b h).1.Grow.length ≤ 40 ∧ (witS a f o b h).1.By.Path.length ≤ 40 := by
 unfold witS
 split
 ·split
  ·split
   ·exact ⟨Nat.zero_le _, Nat.zero_le _⟩
   ·have h1 := extF_le (l := valsF a o.Size.toNat) (m := f.Size.toNat) (mark := true) (by unfold valsF; rw [lm_, List.length_take]; omega)
    rename_i i _
    have h2 := inclF_le (l := valsF b h.Size.toNat) (i := i) (by unfold valsF; rw [lm_, List.length_take]; omega); exact ⟨by simp only; omega, by simp only; omega⟩
  ·exact ⟨Nat.zero_le _, Nat.zero_le _⟩
 ·exact ⟨Nat.zero_le _, Nat.zero_le _⟩
end Go.Proofs.YtggaodokkcoagaaGreatDoor
namespace Go.Proofs.YtggaodokkcoagaaGreatDoor
section
variable {σ ρ α β : Type}
theorem iter_from {f : σ → Option (σ ⊕ ρ)} (l : List α) (e : β → Nat → σ) (g : β → Nat → α → β ⊕ ρ) (fin : β → ρ) (I : Nat → β → Prop) (run : List α → Nat → β → ρ)
  (r0 : ∀ k b, run [] k b = fin b) (r1 : ∀ x xs k b, run (x :: xs) k b = match g b k x with | .inl b' => run xs (k + 1) b' | .inr r => r)
  (hn : ∀ b, I l.length b → f (e b l.length) = some (.inr (fin b)))
  (hk : ∀ b k (h : k < l.length), I k b → f (e b k) = some (match g b k l[k] with | .inl b' => .inl (e b' (k + 1)) | .inr r => .inr r) ∧ ∀ b', g b k l[k] = .inl b' → I (k + 1) b') {F : Nat} (hF : l.length < F) (b : β) (hb : I 0 b) :
  iter f F (e b 0) = some (run l 0 b) := by
 have key : ∀ (m k F : Nat) (b : β), k + m = l.length → m < F → I k b → iter f F (e b k) = some (run (l.drop k) k b) := by
  intro m
  induction m with
  | zero =>
   intro k F b hm hF hb; obtain ⟨F', rfl⟩ : ∃ F', F = F' + 1 := ⟨F - 1, by omega⟩; obtain rfl : k = l.length := by omega
   unfold iter; rw [hn b hb, List.drop_length, r0]
  | succ m ih =>
   intro k F b hm hF hb; obtain ⟨F', rfl⟩ : ∃ F', F = F' + 1 := ⟨F - 1, by omega⟩; have hlt : k < l.length := by omega
   obtain ⟨h1, h2⟩ := hk b k hlt hb; unfold iter; rw [h1, List.drop_eq_getElem_cons hlt, r1]; cases hg : g b k l[k] with
   | inl b' => exact ih (k + 1) F' b' (by omega) (by omega) (h2 b' hg)
   | inr r => rfl
 have := key l.length 0 F b (by omega) hF hb
 rwa [List.drop_zero] at this
theorem iter_allL {f : Int → Option (Int ⊕ ρ)} (l : List α) (p : α → Bool) (a b : ρ) (hn : f (l.length : Int) = some (.inr a)) (hk : ∀ k (h : k < l.length), f (k : Int) = some (if p l[k] = true then .inl ((k : Int) + 1) else .inr b)) {F : Nat} (hF : l.length < F) :
  iter f F 0 = some (if l.all p = true then a else b) := by
 refine iter_from (β := Unit) l (fun _ k => (k : Int)) (fun _ _ x => if p x = true then .inl () else .inr b) (fun _ => a) (fun _ _ => True) (fun l _ _ => if l.all p = true then a else b) (fun _ _ => rfl) (fun x xs k _ => ?_) (fun _ _ => hn) (fun _ k h _ => ⟨?_, fun _ _ => trivial⟩) hF () trivial
 ·rw [List.all_cons]; cases p x <;> simp
 ·rw [hk k h]; cases p l[k] <;> rfl
theorem iter_fdL {f : Int → Option (Int ⊕ ρ)} (l : List α) (p : α → Bool) (a : ρ) (b : Nat → ρ) (hn : f (l.length : Int) = some (.inr a)) (hk : ∀ k (h : k < l.length), f (k : Int) = some (if p l[k] = true then .inr (b k) else .inl ((k : Int) + 1))) {F : Nat} (hF : l.length < F) :
  iter f F 0 = some (match l.findIdx? p with | none => a | some k => b k) := by
 have h := iter_from (f := f) (β := Unit) l (fun _ k => (k : Int)) (fun _ k x => if p x = true then .inr (b k) else .inl ()) (fun _ => a) (fun _ _ => True) (fun l k _ => match l.findIdx? p with | none => a | some j => b (k + j)) (fun _ _ => rfl) (fun x xs k _ => ?_) (fun _ _ => hn) (fun _ k h _ => ⟨?_, fun _ _ => trivial⟩) hF () trivial
 ·simp only [Nat.zero_add] at h; exact h
 ·rw [List.findIdx?_cons]; cases p x
  ·simp only [Bool.false_eq_true, if_false]; cases xs.findIdx? p with
   | none => rfl
   | some j => simp only [Option.map_some]; congr 1; omega
  ·simp
 ·rw [hk k h]; cases p l[k] <;> rfl
theorem iter_fdE {f : σ → Option (σ ⊕ ρ)} (e : Int → σ) (l : List α) (p : α → Bool) (a : ρ) (b : Nat → ρ) (hn : f (e (l.length : Int)) = some (.inr a)) (hk : ∀ k (h : k < l.length), f (e (k : Int)) = some (if p l[k] = true then .inr (b k) else .inl (e ((k : Int) + 1)))) {F : Nat} (hF : l.length < F) :
  iter f F (e 0) = some (match l.findIdx? p with | none => a | some k => b k) := by
 have h := iter_from (f := f) (β := Unit) l (fun _ k => e (k : Int)) (fun _ k x => if p x = true then .inr (b k) else .inl ()) (fun _ => a) (fun _ _ => True) (fun l k _ => match l.findIdx? p with | none => a | some j => b (k + j)) (fun _ _ => rfl) (fun x xs k _ => ?_) (fun _ _ => hn) (fun _ k h _ => ⟨?_, fun _ _ => trivial⟩) hF () trivial
 ·simp only [Nat.zero_add] at h; exact h
 ·rw [List.findIdx?_cons]; cases p x
  ·simp only [Bool.false_eq_true, if_false]; cases xs.findIdx? p with
   | none => rfl
   | some j => simp only [Option.map_some]; congr 1; omega
  ·simp
 ·rw [hk k h]; cases p l[k] <;> rfl
theorem iter_fold {f : σ → Option (σ ⊕ ρ)} (e : β → Int → σ) (l : List α) (g : β → α → β) (fin : β → ρ) (I : Nat → β → Prop) (hn : ∀ b, I l.length b → f (e b (l.length : Int)) = some (.inr (fin b)))
  (hk : ∀ b k (h : k < l.length), I k b → f (e b (k : Int)) = some (.inl (e (g b l[k]) ((k : Int) + 1))) ∧ I (k + 1) (g b l[k])) {F : Nat} (hF : l.length < F) (b : β) (hb : I 0 b) :
  iter f F (e b 0) = some (fin (l.foldl g b)) := by
 refine iter_from l (fun b k => e b (k : Int)) (fun b _ x => .inl (g b x)) fin I (fun l _ b => fin (l.foldl g b)) (fun _ _ => rfl) (fun _ _ _ _ => rfl) hn (fun b k h hb => ⟨(hk b k h hb).1, fun b' h' => ?_⟩) hF b hb; cases h'; exact (hk b k h hb).2
theorem iter_foldX {τ : Type} {f : σ → Option (σ ⊕ ρ)} (e : β → Int → σ) (l : List α) (g : β → α → β ⊕ τ) (fin : β → ρ) (fx : τ → ρ) (I : Nat → β → Prop) (run : List α → β → ρ) (r0 : ∀ b, run [] b = fin b) (r1 : ∀ x xs b, run (x :: xs) b = match g b x with | .inl b' => run xs b' | .inr r => fx r)
  (hn : ∀ b, I l.length b → f (e b (l.length : Int)) = some (.inr (fin b)))
  (hk : ∀ b k (h : k < l.length), I k b → f (e b (k : Int)) = some (match g b l[k] with | .inl b' => .inl (e b' ((k : Int) + 1)) | .inr r => .inr (fx r)) ∧ ∀ b', g b l[k] = .inl b' → I (k + 1) b') {F : Nat} (hF : l.length < F) (b : β) (hb : I 0 b) :
  iter f F (e b 0) = some (run l b) := by
 refine iter_from l (fun b k => e b (k : Int)) (fun b _ x => match g b x with | .inl b' => .inl b' | .inr r => .inr (fx r)) fin I (fun l _ b => run l b) (fun _ b => r0 b) (fun x xs k b => ?_) hn (fun b k h hb => ⟨?_, fun b' h' => ?_⟩) hF b hb
 ·rw [r1]; cases g b x <;> rfl
 ·rw [(hk b k h hb).1]; cases g b l[k] <;> rfl
 ·refine (hk b k h hb).2 b' ?_; cases hg : g b l[k] with
  | inl c => rw [hg] at h'; cases h'; rfl
  | inr r => rw [hg] at h'; cases h'
end
theorem ltl {k n : Nat} (h : k < n) : decide ((k : Int) < (n : Int)) = true := decide_eq_true (by omega)
theorem ltn (n : Nat) : decide ((n : Int) < (n : Int)) = false := decide_eq_false (by omega)
theorem w64_1 {k n : Nat} (h : k < n) (hn : n ≤ 9223372036854775807) : IntKind.i64.wrap ((k : Int) + 1) = (k : Int) + 1 := by rw [IntKind.wrap_i64]; omega
theorem w64_p {k : Nat} (h : 0 < k) (hn : k ≤ 9223372036854775807) : IntKind.i64.wrap ((k : Int) - 1) = ((k - 1 : Nat) : Int) := by rw [IntKind.wrap_i64]; omega
theorem dnot {p q : Prop} [Decidable p] [Decidable q] (h : p ↔ ¬q) : decide p = !decide q := by
 rw [← decide_not]; exact decide_eq_decide.2 h
theorem deq {p q : Prop} [Decidable p] [Decidable q] (h : p ↔ q) : decide p = decide q := decide_eq_decide.2 h
def frL {α : Type} (p : Nat → α → Bool) : List α → Nat → Bool
 | [], _ => true
 | x :: xs, k => p k x && frL p xs (k + 1)
theorem frL_iff {α : Type} {p : Nat → α → Bool} : ∀ {l : List α} {k : Nat}, frL p l k = true ↔ ∀ j (h : j < l.length), p (k + j) l[j] = true
 | [], k => ⟨fun _ j h => absurd h (Nat.not_lt_zero _), fun _ => rfl⟩
 | x :: l, k => by
  rw [frL, Bool.and_eq_true, frL_iff]; constructor
  ·rintro ⟨h1, h2⟩ j hj
   match j, hj with
   | 0, _ => exact h1
   | j + 1, hj =>
    have := h2 j (by simpa using hj); rw [show k + (j + 1) = k + 1 + j by omega]; exact this
  ·intro h; refine ⟨h 0 (by simp), fun j hj => ?_⟩; have := h (j + 1) (by simpa using hj); rw [show k + 1 + j = k + (j + 1) by omega]; exact this
def foI {α β : Type} (h : β → Nat → α → β) : List α → Nat → β → β
 | [], _, b => b
 | x :: xs, k, b => foI h xs (k + 1) (h b k x)
section
variable {σ ρ α β : Type}
theorem iter_chk {f : σ → Option (σ ⊕ ρ)} (e : β → Int → σ) (l : List α) (p : Nat → α → Bool) (g : β → Nat → α → β) (fin : β → ρ) (r : ρ) (I : Nat → β → Prop) (hn : ∀ b, I l.length b → f (e b (l.length : Int)) = some (.inr (fin b)))
  (hk : ∀ b k (h : k < l.length), I k b → f (e b (k : Int)) = some (if p k l[k] = true then .inl (e (g b k l[k]) ((k : Int) + 1)) else .inr r) ∧ I (k + 1) (g b k l[k])) {F : Nat} (hF : l.length < F) (b : β) (hb : I 0 b) :
  iter f F (e b 0) = some (if frL p l 0 = true then fin (foI g l 0 b) else r) := by
 refine iter_from l (fun b k => e b (k : Int)) (fun b k x => if p k x = true then .inl (g b k x) else .inr r) fin I (fun l k b => if frL p l k = true then fin (foI g l k b) else r) (fun _ _ => rfl) (fun x xs k b => ?_) hn (fun b k h hb => ⟨?_, fun b' h' => ?_⟩) hF b hb
 ·rw [frL]; cases p k x <;> simp [foI]
 ·rw [(hk b k h hb).1]; cases p k l[k] <;> rfl
 ·have h1 := (hk b k h hb).2
  split at h'
  ·cases h'; exact h1
  ·cases h'
theorem iter_chkU {f : Int → Option (Int ⊕ ρ)} (l : List α) (p : Nat → α → Bool) (a r : ρ) (hn : f (l.length : Int) = some (.inr a))
  (hk : ∀ k (h : k < l.length), f (k : Int) = some (if p k l[k] = true then .inl ((k : Int) + 1) else .inr r)) {F : Nat} (hF : l.length < F) :
  iter f F 0 = some (if frL p l 0 = true then a else r) := by
 have := iter_chk (f := f) (β := Unit) (fun _ k => k) l p (fun _ _ _ => ()) (fun _ => a) r (fun _ _ => True) (fun _ _ => hn) (fun _ k h _ => ⟨hk k h, trivial⟩) hF () trivial; exact this
theorem iter_eqL [DecidableEq α] {f : Int → Option (Int ⊕ ρ)} (l m : List α) (hl : l.length = m.length) (a b : ρ) (hn : f (l.length : Int) = some (.inr a))
  (hk : ∀ k (h : k < l.length) (h' : k < m.length), f (k : Int) = some (if decide (l[k] = m[k]) = true then .inl ((k : Int) + 1) else .inr b)) {F : Nat} (hF : l.length < F) :
  iter f F 0 = some (if decide (l = m) = true then a else b) := by
 rw [iter_chkU l (fun k x => decide (m[k]? = some x)) a b hn (fun k h => ?_) hF]
 ·congr 2
  refine propext ?_; rw [frL_iff, decide_eq_true_eq]; constructor
  ·intro h; refine List.ext_getElem hl fun j h1 h2 => ?_
   have := h j h1; rw [Nat.zero_add, decide_eq_true_eq, List.getElem?_eq_getElem h2] at this; exact (Option.some.inj this).symm
  ·rintro rfl j hj
   simp [hj]
 ·rw [hk k h (hl ▸ h), List.getElem?_eq_getElem (hl ▸ h)]
  congr 2
  refine propext ?_; simp only [decide_eq_true_eq, Option.some.injEq]; exact ⟨fun h => h.symm, fun h => h.symm⟩
end
def fdI : Option Nat → Int
 | none => -1
 | some k => (k : Int)
theorem fd_neg {α : Type} (p : α → Bool) (l : List α) : decide (fdI (l.findIdx? (fun x => !p x)) ≥ 0) = !l.all p := by
 cases h : l.findIdx? (fun x => !p x) with
 | none =>
  rw [List.findIdx?_eq_none_iff] at h; have : l.all p = true := List.all_eq_true.2 fun x hx => by simpa using h x hx
  rw [this]; rfl
 | some k =>
  rw [List.findIdx?_eq_some_iff_getElem] at h; obtain ⟨hk, h1, _⟩ := h; have : l.all p = false := by
   rw [Bool.eq_false_iff]; intro h2; have := List.all_eq_true.1 h2 l[k] (List.getElem_mem hk); rw [this] at h1; simp at h1
  rw [this]; simp only [Bool.not_false, decide_eq_true_eq]
  show (0 : Int) ≤ (k : Int)
  omega
def offsF (p : Km) : List Int := p.First.Head.Office :: p.Hops.map (·.By.Head.Office)
theorem fold_snoc {α β : Type} (f : α → β) : ∀ (l : List α) (b : List β), l.foldl (fun b x => b ++ [f x]) b = b ++ l.map f
 | [], b => by simp
 | x :: l, b => by rw [List.foldl_cons, fold_snoc f l, List.map_cons, List.append_assoc]; rfl
theorem offs_p {p : Km} (hl : p.Hops.length ≤ 50) {F : Nat} (hF : 64 ≤ F) : G0 F p = some (offsF p) := by
 unfold G0 offsF; rw [iter_fold (fun (b : List Int) i => (i, b)) p.Hops (fun b x => b ++ [x.By.Head.Office]) id (fun k b => b.length = k + 1) ?_ ?_ (by omega) [p.First.Head.Office] rfl, fold_snoc]
 ·rfl
 ·intro b _; simp only [un2, ltn, ifB_f, id]
 ·intro b k h hb; simp only [un2, ltl h, ifB_t, ixI_get h, ob_some, w64_1 h (by omega)]; rw [apG_ok (by simp only [List.length_cons, List.length_nil]; omega)]; exact ⟨rfl, by simp [hb]⟩
theorem offs_r {p : Km} (hl : p.Hops.length ≤ 50) {F : Nat} (hF : 64 ≤ F) : Gbn F p = some (offsF p) := by
 unfold Gbn offsF; rw [iter_fold (fun (b : List Int) i => (b, i)) p.Hops (fun b x => b ++ [x.By.Head.Office]) id (fun k b => b.length = k + 1) ?_ ?_ (by omega) [p.First.Head.Office] rfl, fold_snoc]
 ·rfl
 ·intro b _; simp only [un2, ltn, ifB_f, id]
 ·intro b k h hb; simp only [un2, ltl h, ifB_t, ixI_get h, ob_some, w64_1 h (by omega)]; rw [apG_ok (by simp only [List.length_cons, List.length_nil]; omega)]; exact ⟨rfl, by simp [hb]⟩
theorem sameI_r {l m : List Int} (hl : l.length ≤ 60) {F : Nat} (hF : 64 ≤ F) : G9 F l m = some (decide (l = m)) := by
 unfold G9
 by_cases h : l.length = m.length
 ·rw [show (((l.length : Int)) == (m.length : Int)) = true from beq_iff_eq.2 (by omega), ifB_t, iter_eqL l m h (.inl ()) (.inr ()) ?_ ?_ (by omega)]
  ·cases decide (l = m) <;> rfl
  ·simp only [ltn, ifB_f]
  ·intro k h1 h2; simp only [ltl h1, ifB_t, ixI_get h1, ixI_get h2, ob_some, w64_1 h1 (by omega)]
   by_cases e : l[k] = m[k]
   ·rw [beq_iff_eq.2 e, decide_eq_true e]; rfl
   ·rw [beq_eq_false_iff_ne.2 e, decide_eq_false e]; rfl
 ·rw [show (((l.length : Int)) == (m.length : Int)) = false from beq_eq_false_iff_ne.2 (by omega), decide_eq_false (fun e => h (congrArg _ e))]; rfl
structure ROk (r : Kk) : Prop where
 h : r.Head.rng
 e : r.Entry.rng
theorem ROk.of {r : Kk} (h : r.rng) : ROk r := ⟨h.r_Head, h.r_Entry⟩
structure POk (p : Km) : Prop where
 f : ROk p.First
 l : ROk p.Last
 h : ∀ x ∈ p.Hops, x.Of.rng ∧ ROk x.By
theorem POk.of {p : Km} (h : p.rng) : POk p := ⟨.of h.r_First, .of h.r_Last, fun x hx => ⟨(h.r_Hops x hx).r_Of, .of (h.r_Hops x hx).r_By⟩⟩
def knB (l : List Int) (k : Int) : Bool := decide (1 ≤ k ∧ k ≤ (l.length : Int)) && !(kAt l (k - 1).toNat == 0)
def pubA (l : List Int) (k : Int) : Int := if knB l k then kAt l (k - 1).toNat else 4
theorem pubA_t {l : List Int} {k : Int} (h : knB l k = true) : pubA l k = kAt l (k - 1).toNat := by unfold pubA; rw [h, if_pos rfl]
theorem pubA_f {l : List Int} {k : Int} (h : knB l k = false) : pubA l k = 4 := by unfold pubA; rw [h, if_neg (by decide)]
def rcpS (l : List Int) (r : Kk) : Bool × Int := ((chkS (pubA l r.Head.Office) r).1 && knB l r.Head.Office, (chkS (pubA l r.Head.Office) r).2)
theorem rcp_p {l : List Int} {r : Kk} (hr : ROk r) {F : Nat} (hF : 64 ≤ F) : Gah F l r = some (rcpS l r) := by
 unfold Gah rcpS; have hc : ∀ pub, Gi F pub r = some (chkS pub r) := fun pub => check_p hr.h.r_Office hr.h.r_Size hr.e hF
 have hi := inKd_i64 hr.h.r_Office; have fin : ∀ (pub : Int) (b : Bool), Option.bind (Gi F pub r) (un2 fun v_15 v_16 => Option.bind (ifB v_15 (some b) (some false) : Option Bool) fun v_19 => some (v_19, v_16)) = some ((chkS pub r).1 && b, (chkS pub r).2) := fun pub b => by
  rw [hc]; simp only [ob_some, un2]; cases (chkS pub r).1 <;> rfl
 by_cases h1 : 1 ≤ r.Head.Office
 ·by_cases h2 : r.Head.Office ≤ (l.length : Int)
  ·have hk : knB l r.Head.Office = !(kAt l (r.Head.Office - 1).toNat == 0) := by
    unfold knB; rw [decide_eq_true ⟨h1, h2⟩, Bool.true_and]
   cases hz : (kAt l (r.Head.Office - 1).toNat == 0) with
   | true =>
    rw [hz] at hk; rw [pubA_f hk, hk, decide_eq_true h1, decide_eq_true h2, w64_id (n := r.Head.Office - 1) (by omega) (by omega), show r.Head.Office - 1 = (((r.Head.Office - 1).toNat : Nat) : Int) by omega, ixI_nat, kAt_get (by omega)]; simp only [ifB_t, ob_some, hz]; rw [show (!true) = false from rfl, ifB_f, ob_some]; exact fin 4 false
   | false =>
    rw [hz] at hk; rw [pubA_t hk, hk, decide_eq_true h1, decide_eq_true h2, w64_id (n := r.Head.Office - 1) (by omega) (by omega), show r.Head.Office - 1 = (((r.Head.Office - 1).toNat : Nat) : Int) by omega, ixI_nat, kAt_get (by omega)]; simp only [ifB_t, ob_some, hz, Int.toNat_natCast]; rw [show (!false) = true from rfl, ifB_t, ob_some]; exact fin _ true
  ·have hk : knB l r.Head.Office = false := by
    unfold knB; rw [decide_eq_false (fun e => h2 e.2), Bool.false_and]
   rw [decide_eq_true h1, decide_eq_false h2, pubA_f hk, hk]; exact fin 4 false
 ·have hk : knB l r.Head.Office = false := by
   unfold knB; rw [decide_eq_false (fun e => h1 e.1), Bool.false_and]
  rw [decide_eq_false h1, pubA_f hk, hk]; exact fin 4 false
def rcpB (l : List Int) (r : Kk) : Bool := knB l r.Head.Office && (chkS (kAt l (r.Head.Office - 1).toNat) r).1
theorem rcp_r {l : List Int} {r : Kk} (hr : r.rng) (h1 : 1 ≤ r.Head.Office) {F : Nat} (hF : 64 ≤ F) : Gaq F l r = some (rcpB l r) := by
 unfold Gaq rcpB knB; have hi := inKd_i64 hr.r_Head.r_Office
 by_cases h2 : r.Head.Office ≤ (l.length : Int)
 ·rw [decide_eq_true (p := 1 ≤ r.Head.Office ∧ r.Head.Office ≤ (l.length : Int)) ⟨h1, h2⟩, decide_eq_false (p := r.Head.Office > (l.length : Int)) (by omega), w64_id (n := r.Head.Office - 1) (by omega) (by omega), show r.Head.Office - 1 = (((r.Head.Office - 1).toNat : Nat) : Int) by omega, ixI_nat, kAt_get (by omega)]; simp only [ifB_f, ob_some, Int.toNat_natCast, Bool.true_and]; cases hz : (kAt l (r.Head.Office - 1).toNat == 0) with
  | true => rfl
  | false =>
   rw [ifB_f, check_r hr hF]; rfl
 ·rw [decide_eq_false (p := 1 ≤ r.Head.Office ∧ r.Head.Office ≤ (l.length : Int)) (fun e => h2 e.2), decide_eq_true (p := r.Head.Office > (l.length : Int)) (by omega)]; rfl
theorem kAt_ok {l : List Int} (h : rgtS l = true) {k : Nat} (hk : k < l.length) : okK (kAt l k) = true := by
 unfold rgtS at h; rw [Bool.and_eq_true] at h; exact frB_iff.1 h.2 k (by omega) (by omega)
theorem pubA_pub {l : List Int} (h : rgtS l = true) (k : Int) : pubB (pubA l k) = true := by
 cases hk : knB l k with
 | false => rw [pubA_f hk]; exact pub4
 | true =>
  rw [pubA_t hk]; unfold knB at hk; simp only [Bool.and_eq_true, decide_eq_true_eq, Bool.not_eq_true'] at hk; have := kAt_ok h (k := (k - 1).toNat) (by omega); unfold okK at this
  rwa [hk.2, Bool.false_or] at this
theorem rcpS_e {l : List Int} {r : Kk} (h : rgtS l = true) : ((rcpS l r).2 == 0) = recB r := by
 show ((chkS (pubA l r.Head.Office) r).2 == 0) = recB r
 rw [chkS_e, pubA_pub h, Bool.true_and]
theorem rcpS_b (l : List Int) (r : Kk) : (rcpS l r).1 = rcpB l r := by
 show ((chkS (pubA l r.Head.Office) r).1 && knB l r.Head.Office) = (knB l r.Head.Office && (chkS (kAt l (r.Head.Office - 1).toNat) r).1)
 cases hk : knB l r.Head.Office with
 | false => rw [Bool.and_false, Bool.false_and]
 | true => rw [pubA_t hk, Bool.and_true, Bool.true_and]
def hopF (h : KHop) : Bool := recB h.By && (fH h.Of && decide (h.Grow.length ≤ 20))
def prfF (p : Km) : Bool := (recB p.First && (recB p.Last && (decide (p.Hops.length ≤ 16) && decide (p.Grow.length ≤ 20)))) && p.Hops.all hopF
def hopsB (l : List Int) : Kc → List KHop → Bool
 | _, [] => true
 | f, h :: hs => hopB l f h && hopsB l h.By.Head hs
def endR : Kk → List KHop → Kk
 | r, [] => r
 | _, h :: hs => endR h.By hs
def lastB (a : Kk) (b : Kk) (g : List Int) : Bool :=
 (a.Head.Office == b.Head.Office) && (decide (a.Index < b.Index) && (if a.Head.Size ≤ b.Head.Size then growS a.Head.Root b.Head.Root a.Head.Size b.Head.Size g else growS b.Head.Root a.Head.Root b.Head.Size a.Head.Size g))
def ordP (l : List Int) (p : Km) : Bool := (rcpB l p.First && rcpB l p.Last) && (hopsB l p.First.Head p.Hops && lastB (endR p.First p.Hops) p.Last p.Grow)
def ordS (l : List Int) (p : Km) : Bool × Int := if rgtS l && prfF p then (ordP l p, 0) else (false, 1)
theorem hopS_of {l : List Int} {f : Kc} {h : KHop} (h1 : rgtS l = true) (h2 : fH f = true) : hopS l f h = if hopF h then (hopB l f h, 0) else (false, 1) := by
 unfold hopS hopC hopF; rw [h1, h2, Bool.true_and, Bool.true_and]
theorem recB_fH {r : Kk} (h : recB r = true) : fH r.Head = true := by
 unfold recB at h; rw [Bool.and_eq_true] at h; exact h.1
theorem hopF_fH {h : KHop} (hh : hopF h = true) : fH h.By.Head = true := by
 unfold hopF at hh; rw [Bool.and_eq_true] at hh; exact recB_fH hh.1
abbrev Flat := Int × Int × Int × Int × Int × Int × Int × Int × Int × (List Int)
def flat (r : Kk) : Flat := (r.Head.Office, r.Head.Size, r.Head.Root, r.Head.Sig.C, r.Head.Sig.S, r.Index, r.Entry.Doc, r.Entry.Stamp.Lo, r.Entry.Stamp.Hi, r.Path)
def runP (l : List Int) : List KHop → Bool × Kk → (Bool × Flat) ⊕ Unit
 | [], b => .inl (b.1, flat b.2)
 | h :: hs, b => if hopF h = true then runP l hs (b.1 && hopB l b.2.Head h, h.By) else .inr ()
theorem runP_eq (l : List Int) : ∀ (hs : List KHop) (b : Bool) (r : Kk), runP l hs (b, r) = if hs.all hopF = true then .inl (b && hopsB l r.Head hs, flat (endR r hs)) else .inr ()
 | [], b, r => by simp [runP, hopsB, endR]
 | h :: hs, b, r => by
  rw [runP, List.all_cons, hopsB, endR]; cases hh : hopF h with
  | true =>
   rw [if_pos rfl, runP_eq l hs, Bool.true_and, Bool.and_assoc]
  | false => simp
def runR (l : List Int) : List KHop → Kk → Flat ⊕ Unit
 | [], r => .inl (flat r)
 | h :: hs, r => if hopB l r.Head h = true then runR l hs h.By else .inr ()
theorem runR_eq (l : List Int) : ∀ (hs : List KHop) (r : Kk), runR l hs r = if hopsB l r.Head hs = true then .inl (flat (endR r hs)) else .inr ()
 | [], r => rfl
 | h :: hs, r => by
  rw [runR, hopsB, endR]; cases hh : hopB l r.Head h with
  | true => rw [if_pos rfl, runR_eq l hs, Bool.true_and]
  | false => simp
theorem prf_r {p : Km} (hl : p.Hops.length ≤ 50) {F : Nat} (hF : 64 ≤ F) : Gbo F p = some (prfF p) := by
 have hh : ∀ h : KHop, Gw F h = some (hopF h) := fun h => by
  unfold Gw hopF; rw [fH_r, form_r, show decide ((h.Grow.length : Int) ≤ 20) = decide (h.Grow.length ≤ 20) from deq (by omega)]; unfold recB; cases fH h.Of <;> cases (fH h.By.Head && (vI h.By.Entry.Stamp && decide ((0 ≤ h.By.Index ∧ h.By.Index < h.By.Head.Size) ∧ h.By.Path.length ≤ 20))) <;> rfl
 unfold Gbo prfF; rw [form_r, form_r, iter_allL p.Hops hopF (.inl ()) (.inr ()) ?_ ?_ (by omega)]
 ·rw [dnot (p := (p.Hops.length : Int) > 16) (q := p.Hops.length ≤ 16) (by omega), dnot (p := (p.Grow.length : Int) > 20) (q := p.Grow.length ≤ 20) (by omega)]; unfold recB; simp only [ob_some]; cases (fH p.First.Head && (vI p.First.Entry.Stamp && decide ((0 ≤ p.First.Index ∧ p.First.Index < p.First.Head.Size) ∧ p.First.Path.length ≤ 20))) <;> cases (fH p.Last.Head && (vI p.Last.Entry.Stamp && decide ((0 ≤ p.Last.Index ∧ p.Last.Index < p.Last.Head.Size) ∧ p.Last.Path.length ≤ 20))) <;> cases decide (p.Hops.length ≤ 16) <;> cases decide (p.Grow.length ≤ 20) <;> cases p.Hops.all hopF <;> rfl
 ·simp only [ltn, ifB_f]
 ·intro k h; simp only [ltl h, ifB_t, ixI_get h, ob_some, w64_1 h (by omega), hh]; cases hopF p.Hops[k] <;> rfl
theorem recB_off {r : Kk} (h : recB r = true) : 1 ≤ r.Head.Office := fH_off (recB_fH h)
theorem ord_r {l : List Int} {p : Km} (hl : l.length ≤ 40) (hp : p.rng) (hh : p.Hops.length ≤ 50) {F : Nat} (hF : 64 ≤ F) : Gbk F l p = some (ordS l p) := by
 unfold Gbk ordS; rw [pubs_r hl hF, prf_r hh hF]; cases h1 : rgtS l with
 | false => rfl
 | true =>
 cases h2 : prfF p with
 | false => rfl
 | true =>
 have h2' := h2; unfold prfF at h2'; simp only [Bool.and_eq_true, decide_eq_true_eq, List.all_eq_true] at h2'; obtain ⟨⟨q1, q2, q3, q4⟩, q5⟩ := h2'; simp only [ob_some, ifB_t, Bool.not_true, ifB_f, Bool.true_and, if_true]; rw [rcp_r hp.r_First (recB_off q1) hF, rcp_r hp.r_Last (recB_off q2) hF]; unfold ordP; cases h3 : rcpB l p.First with
 | false => rfl
 | true =>
 cases h4 : rcpB l p.Last with
 | false => rfl
 | true =>
 simp only [ob_some, ifB_t, Bool.not_true, ifB_f, Bool.true_and]; rw [iter_foldX (β := Kk) (τ := Unit) (fun r k => ((r.Head.Office, r.Head.Size, r.Head.Root, r.Head.Sig.C, r.Head.Sig.S, r.Index, r.Entry.Doc, r.Entry.Stamp.Lo, r.Entry.Stamp.Hi, r.Path, k) : Int × Int × Int × Int × Int × Int × Int × Int × Int × (List Int) × Int)) p.Hops (fun r h => if hopB l r.Head h = true then .inl h.By else .inr ()) (fun r => .inl (flat r)) (fun _ => .inr ()) (fun _ r => fH r.Head = true ∧ r.rng) (runR l) (fun _ => rfl) (fun x xs b => ?_) (fun b _ => ?_) (fun b k h hb => ⟨?_, fun b' h' => ?_⟩) (by omega) p.First ⟨recB_fH q1, hp.r_First⟩, runR_eq]
 ·cases hopsB l p.First.Head p.Hops with
  | false => rfl
  | true =>
   simp only [if_true, ob_some, Sum.elim_inl, Bool.true_and]; unfold lastB flat; simp only [un10, ob_some, Sum.elim_inl]; cases (endR p.First p.Hops).Head.Office == p.Last.Head.Office with
   | false => rfl
   | true =>
    rw [dnot (p := p.Last.Index ≤ (endR p.First p.Hops).Index) (q := (endR p.First p.Hops).Index < p.Last.Index) (by omega)]; cases decide ((endR p.First p.Hops).Index < p.Last.Index) with
    | false => rfl
    | true =>
     simp only [ifB_t, ob_some, Bool.not_true, ifB_f, Bool.true_and]; rw [rgrow _ _ _ _ _ (by omega) hF, rgrow _ _ _ _ _ (by omega) hF]
     by_cases hs : (endR p.First p.Hops).Head.Size ≤ p.Last.Head.Size
     ·rw [decide_eq_true hs, if_pos hs]; rfl
     ·rw [decide_eq_false hs, if_neg hs]; rfl
 ·rw [runR]; cases hopB l b.Head x <;> rfl
 ·simp only [un11, ltn, ifB_f]; rfl
 ·have hm := hp.r_Hops _ (List.getElem_mem h); simp only [un11, ltl h, ifB_t, ixI_get h, ob_some, w64_1 h (by omega)]; rw [show (⟨b.Head.Office, b.Head.Size, b.Head.Root, ⟨b.Head.Sig.C, b.Head.Sig.S⟩⟩ : Kc) = b.Head from rfl, hop_r hl hb.2.r_Head hm.r_Of hm.r_By hF, hopS_of h1 hb.1, if_pos (q5 _ (List.getElem_mem h))]; simp only [ob_some, un2]; cases hopB l b.Head p.Hops[k] <;> rfl
 ·split at h'
  ·cases h'; exact ⟨hopF_fH (q5 _ (List.getElem_mem h)), (hp.r_Hops _ (List.getElem_mem h)).r_By⟩
  ·cases h'
theorem isKey_p (k : Int) {F : Nat} (hF : 64 ≤ F) : Ga5 F k = some (pubB k) := by
 unfold Ga5; rw [right_p (inKd_w (by decide) (by decide)) (inKd_w (by decide) (by decide)) hF, ob_some, un2_p, rightS_e, show fH ⟨1, 1, 0, ⟨0, 0⟩⟩ = true from rfl, Bool.and_true]
theorem badK_p (k : Int) {F : Nat} (hF : 64 ≤ F) : Ga0 F k = some (!okK k) := by
 unfold Ga0 okK; rw [isKey_p k hF]; cases (k == 0) <;> cases pubB k <;> rfl
theorem rgt_all (l : List Int) : rgtS l = (decide (l.length ≤ 16) && l.all okK) := by
 unfold rgtS
 congr 1
 rw [Bool.eq_iff_iff, frB_iff, List.all_eq_true]; constructor
 ·intro h x hx; obtain ⟨k, hk, rfl⟩ := List.getElem_of_mem hx; have := h k (by omega) (by omega)
  rwa [show kAt l k = l[k] from Option.some.inj ((kAt_get hk).symm.trans (List.getElem?_eq_getElem hk))] at this
 ·intro h j _ hj; refine h _ ?_; exact List.mem_of_getElem? (kAt_get (by omega))
abbrev Flb := Bool × Int × Int × Int × Int × Int × Int × Int × Int × Int × (List Int)
def flb (b : Bool × Kk) : Flb := (b.1, flat b.2)
theorem ord_p {l : List Int} {p : Km} (hl : l.length ≤ 40) (hp : POk p) (hh : p.Hops.length ≤ 50) {F : Nat} (hF : 64 ≤ F) : Gs F l p = some (ordS l p) := by
 unfold Gs ordS; have hno : (decide (p.Hops.length ≤ 16) && decide (p.Grow.length ≤ 20)) = false → prfF p = false := fun e => by
  unfold prfF; rw [e]; simp
 rw [dnot (p := (p.Hops.length : Int) > 16) (q := p.Hops.length ≤ 16) (by omega), dnot (p := (p.Grow.length : Int) > 20) (q := p.Grow.length ≤ 20) (by omega)]; cases q3 : decide (p.Hops.length ≤ 16) with
 | false =>
  rw [hno (by rw [q3]; rfl), Bool.and_false]; rfl
 | true =>
 cases q4 : decide (p.Grow.length ≤ 20) with
 | false =>
  rw [hno (by rw [q3, q4]; rfl), Bool.and_false]; rfl
 | true =>
 simp only [Bool.not_true, ifB_f, ob_some]; have hbad : ∀ o : Unit ⊕ Int, o = (match l.findIdx? (fun k => !okK k) with | none => .inl () | some k => .inr (k : Int)) → (Option.bind (Option.bind (Option.bind (some o) (Sum.elim (fun (_ : Unit) => some (.inl ())) (fun (v_31 : Int) => some (.inr v_31))) : Option (Unit ⊕ Int)) (Sum.elim (fun (_ : Unit) => some (-1)) (fun (v_33 : Int) => some v_33)) : Option Int) (fun (v_34 : Int) => some (decide (v_34 ≥ 0))) : Option Bool) = some (!l.all okK) := by
  rintro _ rfl; rw [← fd_neg okK l]; cases l.findIdx? (fun k => !okK k) <;> rfl
 rw [rcp_p hp.f hF, rcp_p hp.l hF, ob_some, un2_p, ob_some, un2_p]; rw [iter_fdL l (fun k => !okK k) (.inl ()) (fun k => .inr (k : Int)) ?a1 ?a2 (by omega), hbad _ ?a3]
 case a3 => cases l.findIdx? (fun k => !okK k) <;> rfl
 case a1 => simp only [ltn, ifB_f]
 case a2 =>
  intro k h; simp only [ltl h, ifB_t, ixI_get h, ob_some, w64_1 h (by omega), badK_p _ hF]; cases okK l[k] <;> rfl
 simp only [ob_some]; cases h1 : rgtS l with
 | false =>
  rw [rgt_all] at h1; rw [Bool.false_and, if_neg (by decide), dnot (p := (l.length : Int) > 16) (q := l.length ≤ 16) (by omega)]; cases e1 : ((rcpS l p.First).2 == 0) <;> cases e2 : ((rcpS l p.Last).2 == 0) <;> cases e3 : l.all okK <;> cases e4 : decide (l.length ≤ 16) <;> first | rfl | (rw [e3, e4] at h1; cases h1)
 | true =>
 have h1' := h1; rw [rgt_all, Bool.and_eq_true] at h1'; rw [rcpS_e h1, rcpS_e h1, h1'.2, dnot (p := (l.length : Int) > 16) (q := l.length ≤ 16) (by omega), h1'.1, rcpS_b, rcpS_b]; unfold prfF; rw [q3, q4]; cases q1 : recB p.First with
 | false => rfl
 | true =>
 cases q2 : recB p.Last with
 | false => rfl
 | true =>
 have q3' := of_decide_eq_true q3; have q4' := of_decide_eq_true q4; simp only [ob_some, ifB_t, Bool.not_true, ifB_f, Bool.true_and]; have h0 : (ifB (rcpB l p.First) (some (rcpB l p.Last)) (some false) : Option Bool) = some (rcpB l p.First && rcpB l p.Last) := by
  cases rcpB l p.First <;> rfl
 rw [h0, ob_some]; rw [iter_foldX (β := Bool × Kk) (τ := Unit) (fun b k => ((b.1, b.2.Head.Office, b.2.Head.Size, b.2.Head.Root, b.2.Head.Sig.C, b.2.Head.Sig.S, b.2.Index, b.2.Entry.Doc, b.2.Entry.Stamp.Lo, b.2.Entry.Stamp.Hi, b.2.Path, k) : Bool × Int × Int × Int × Int × Int × Int × Int × Int × Int × (List Int) × Int)) p.Hops (fun b h => if hopF h = true then .inl (b.1 && hopB l b.2.Head h, h.By) else .inr ()) (fun b => .inl (flb b)) (fun _ => .inr ()) (fun _ b => fH b.2.Head = true ∧ ROk b.2) (runP l) (fun _ => rfl) (fun x xs b => ?_) (fun b _ => ?_) (fun b k h hb => ⟨?_, fun b' h' => ?_⟩) (by omega) (rcpB l p.First && rcpB l p.Last, p.First) ⟨recB_fH q1, hp.f⟩, runP_eq]
 ·cases p.Hops.all hopF with
  | false => rfl
  | true =>
   simp only [if_true, ob_some, Sum.elim_inl]; unfold ordP lastB flat; simp only [un11, ob_some, Sum.elim_inl]; cases (rcpB l p.First && rcpB l p.Last) with
   | false =>
    by_cases hs : (endR p.First p.Hops).Head.Size > p.Last.Head.Size
    ·rw [decide_eq_true hs]; rfl
    ·rw [decide_eq_false hs]; rfl
   | true =>
   cases hopsB l p.First.Head p.Hops with
   | false =>
    by_cases hs : (endR p.First p.Hops).Head.Size > p.Last.Head.Size
    ·rw [decide_eq_true hs]; rfl
    ·rw [decide_eq_false hs]; rfl
   | true =>
   simp only [Bool.and_true, ifB_t, ob_some, Bool.true_and]; cases (endR p.First p.Hops).Head.Office == p.Last.Head.Office with
   | false =>
    by_cases hs : (endR p.First p.Hops).Head.Size > p.Last.Head.Size
    ·rw [decide_eq_true hs]; rfl
    ·rw [decide_eq_false hs]; rfl
   | true =>
    rw [deq (p := p.Last.Index > (endR p.First p.Hops).Index) (q := (endR p.First p.Hops).Index < p.Last.Index) (by omega)]; cases decide ((endR p.First p.Hops).Index < p.Last.Index) with
    | false =>
     by_cases hs : (endR p.First p.Hops).Head.Size > p.Last.Head.Size
     ·rw [decide_eq_true hs]; rfl
     ·rw [decide_eq_false hs]; rfl
    | true =>
     simp only [ifB_t, ob_some, Bool.true_and]
     by_cases hs : (endR p.First p.Hops).Head.Size ≤ p.Last.Head.Size
     ·rw [decide_eq_false (p := (endR p.First p.Hops).Head.Size > p.Last.Head.Size) (by omega), if_pos hs, ifB_f, ob_some]; simp only [un10]; rw [pgrow _ _ _ _ _ (by omega) hF]; rfl
     ·rw [decide_eq_true (p := (endR p.First p.Hops).Head.Size > p.Last.Head.Size) (by omega), if_neg hs, ifB_t, ob_some]; simp only [un10]; rw [pgrow _ _ _ _ _ (by omega) hF]; rfl
 ·rw [runP]; cases hopF x <;> rfl
 ·simp only [un12, ltn, ifB_f]; rfl
 ·have hm := hp.h _ (List.getElem_mem h); simp only [un12, ltl h, ifB_t, ixI_get h, ob_some, w64_1 h (by omega)]; rw [show (⟨b.2.Head.Office, b.2.Head.Size, b.2.Head.Root, ⟨b.2.Head.Sig.C, b.2.Head.Sig.S⟩⟩ : Kc) = b.2.Head from rfl, hop_p hl hb.2.h hm.1 hm.2.h hm.2.e hF, hopS_of h1 hb.1]; simp only [ob_some, un2]; obtain ⟨b1, b2⟩ := b; cases hopF p.Hops[k] <;> cases b1 <;> rfl
 ·split at h'
  ·cases h'
   rename_i hq
   exact ⟨hopF_fH hq, (hp.h _ (List.getElem_mem h)).2⟩
  ·cases h'
def offK (l : List Kg) (k : Int) : Kg := mpG (l.map fun o => (o.ID, o)) k Kg.z
def offH (l : List Kg) (k : Int) : Bool := mpH (l.map fun o => (o.ID, o)) k
theorem offK_cons (o : Kg) (l : List Kg) (k : Int) : offK (o :: l) k = if k == o.ID then o else offK l k := by
 unfold offK mpG; rw [List.map_cons, List.find?_cons]; cases k == o.ID <;> rfl
theorem offH_cons (o : Kg) (l : List Kg) (k : Int) : offH (o :: l) k = ((k == o.ID) || offH l k) := by
 unfold offH mpH; rw [List.map_cons, List.any_cons]
theorem offK_cases (l : List Kg) (k : Int) : (offK l k = Kg.z ∧ offH l k = false) ∨ (offK l k ∈ l ∧ (offK l k).ID = k ∧ offH l k = true) := by
 induction l with
 | nil => exact .inl ⟨rfl, rfl⟩
 | cons o l ih =>
  rw [offK_cons, offH_cons]; cases h : k == o.ID with
  | true => exact .inr ⟨List.mem_cons_self, (eq_of_beq h).symm, rfl⟩
  | false =>
   rw [if_neg (by decide), Bool.false_or]; rcases ih with h1 | ⟨h1, h2⟩
   ·exact .inl h1
   ·exact .inr ⟨List.mem_cons_of_mem _ h1, h2⟩
structure FewO (l : List Kg) : Prop where
 n : l.length ≤ 6
 e : ∀ o ∈ l, o.Entries.length ≤ 50
 r : ∀ o ∈ l, o.rng
theorem zca : Kg.z.rng := ⟨inKd_w (by decide) (by decide), fun y hy => absurd hy List.not_mem_nil⟩
theorem FewO.rng {l : List Kg} (h : FewO l) (k : Int) : (offK l k).rng := by
 rcases offK_cases l k with ⟨e, _⟩ | ⟨e, _⟩
 ·rw [e]; exact zca
 ·exact h.r _ e
theorem FewO.len {l : List Kg} (h : FewO l) (k : Int) : (offK l k).Entries.length ≤ 50 := by
 rcases offK_cases l k with ⟨e, _⟩ | ⟨e, _⟩
 ·rw [e]; decide
 ·exact h.e _ e
def arcF : Int → List Kg → Bool
 | _, [] => true
 | a, o :: os => (vO o && decide (a < o.ID)) && arcF o.ID os
def arcO (l : List Kg) (heads : List Kc) : Kq := ⟨l.map fun o => (o.ID, o), heads⟩
def arcS (l : List Kg) (heads : List Kc) : Option Kq × Int :=
 if decide (l.length ≤ 4) && decide (heads.length ≤ 12) then (if arcF 0 l && heads.all fH then (some (arcO l heads), 0) else (none, 1)) else (none, 2)
def runA : List Kg → List (Int × Kg) × Int → List (Int × Kg) ⊕ Unit
 | [], b => .inl b.1
 | o :: os, b => if (vO o && decide (b.2 < o.ID)) = true then runA os (mpS b.1 o.ID o, o.ID) else .inr ()
theorem mpS_new {α : Type} (k : Int) (x : α) : ∀ m : List (Int × α), (∀ p ∈ m, p.1 < k) → mpS m k x = m ++ [(k, x)]
 | [], _ => rfl
 | p :: m, h => by
  have h1 := h p List.mem_cons_self; rw [mpS, if_neg (by rw [beq_iff_eq]; omega), mpS_new k x m fun q hq => h q (List.mem_cons_of_mem _ hq)]; rfl
theorem runA_eq : ∀ (l : List Kg) (m : List (Int × Kg)) (a : Int), (∀ p ∈ m, p.1 ≤ a) → runA l (m, a) = if arcF a l = true then .inl (m ++ l.map fun o => (o.ID, o)) else .inr ()
 | [], m, a, _ => by simp [runA, arcF]
 | o :: os, m, a, h => by
  rw [runA, arcF]; cases hv : (vO o && decide (a < o.ID)) with
  | false => simp
  | true =>
   have ha : a < o.ID := by
    rw [Bool.and_eq_true] at hv; exact of_decide_eq_true hv.2
   rw [if_pos rfl, mpS_new o.ID o m fun p hp => by have := h p hp; omega, runA_eq os _ _ (fun p hp => ?_), Bool.true_and]
   ·rw [List.append_assoc]; rfl
   ·rcases List.mem_append.1 hp with hp | hp
    ·have := h p hp; omega
    ·rw [List.mem_singleton] at hp; subst hp; exact Int.le_refl _
theorem arc_p {l : List Kg} {heads : List Kc} (hl : FewO l) (hh : ∀ h ∈ heads, h.rng) {F : Nat} (hF : 64 ≤ F) : Ga6 F l heads = some (arcS l heads) := by
 unfold Ga6 arcS; rw [dnot (p := (l.length : Int) > 4) (q := l.length ≤ 4) (by omega), dnot (p := (heads.length : Int) > 12) (q := heads.length ≤ 12) (by omega)]; cases q1 : decide (l.length ≤ 4) with
 | false => rfl
 | true =>
 cases q2 : decide (heads.length ≤ 12) with
 | false => rfl
 | true =>
 have q2' := of_decide_eq_true q2; have hn := hl.n; simp only [Bool.not_true, ifB_f, ob_some, un2, Bool.true_and, if_true]; rw [iter_foldX (β := List (Int × Kg) × Int) (τ := Unit) (fun b i => ((i, b.1, b.2) : Int × List (Int × Kg) × Int)) l (fun b o => if (vO o && decide (b.2 < o.ID)) = true then .inl (mpS b.1 o.ID o, o.ID) else .inr ()) (fun b => .inl b.1) (fun _ => .inr ()) (fun _ _ => True) runA (fun _ => rfl) (fun x xs b => ?_) (fun b _ => ?_) (fun b k h _ => ⟨?_, fun _ _ => trivial⟩) (by omega) ([], 0) trivial, runA_eq _ _ _ (fun p hp => absurd hp List.not_mem_nil)]
 ·cases arcF 0 l with
  | false => rfl
  | true =>
   simp only [if_true, ob_some, Sum.elim_inl, List.nil_append, Bool.true_and]; rw [iter_allL heads fH (.inl ()) (.inr ()) ?_ ?_ (by omega)]
   ·cases heads.all fH <;> rfl
   ·simp only [ltn, ifB_f]
   ·intro k h; have hr := hh _ (List.getElem_mem h); simp only [ltl h, ifB_t, ixI_get h, ob_some, w64_1 h (by omega)]; rw [right_p hr.r_Office hr.r_Size hF, ob_some, un2_p, rightS_e, pub4, Bool.true_and]; cases fH heads[k] <;> rfl
 ·rw [runA]; cases (vO x && decide (b.2 < x.ID)) <;> rfl
 ·simp only [un3, ltn, ifB_f]
 ·simp only [un3, ltl h, ifB_t, ixI_get h, ob_some, w64_1 h (by omega)]; rw [valid_p (hl.e _ (List.getElem_mem h)) hF, ob_some]; cases vO l[k] with
  | false => rfl
  | true =>
   rw [ifB_t, ob_some, Bool.true_and, dnot (p := l[k].ID ≤ b.2) (q := b.2 < l[k].ID) (by omega)]; cases decide (b.2 < l[k].ID) <;> rfl
def entB (l : List Kg) (id i : Int) : Bool := offH l id && (decide (0 ≤ i) && decide (i < ((offK l id).Entries.length : Int)))
theorem ent_p (l : List Kg) (heads : List Kc) (id i : Int) (F : Nat) : Ga1 F (arcO l heads) id i = some (entB l id i) := by
 show Option.bind (some (offK l id, offH l id)) _ = _
 unfold entB; rw [ob_some, un2_p]; cases offH l id <;> cases decide (0 ≤ i) <;> rfl
def whB (l : List Kg) (h : Kc) : Bool := (provS (offK l h.Office) h 0).2 == 0
theorem wh_p {l : List Kg} {heads : List Kc} (hl : FewO l) (hn : heads.length ≤ 12) {F : Nat} (hF : 64 ≤ F) : Ga4 F (arcO l heads) = some (heads.all (whB l)) := by
 unfold Ga4; rw [show (arcO l heads).heads = heads from rfl, iter_fdL heads (fun h => !whB l h) (.inl ()) (fun k => .inr (k : Int)) ?a1 ?a2 (by omega)]
 case a1 => simp only [ltn, ifB_f]
 case a2 =>
  intro k h; simp only [ltl h, ifB_t, ixI_get h, ob_some, w64_1 h (by omega)]; rw [show mpG (arcO l heads).offices heads[k].Office Kg.z = offK l heads[k].Office from rfl, prove_p (hl.rng _) (hl.len _) hF, ob_some, un2_p, ob_some]
  show ifB (!whB l heads[k]) _ _ = _
  cases whB l heads[k] <;> rfl
 ·have e := fd_neg (whB l) heads; rw [← Bool.not_not (b := heads.all (whB l)), ← e]; cases heads.findIdx? (fun h => !whB l h) <;> rfl
structure HdOk (l : List Kg) (h : Kc) : Prop where
 f : fH h = true
 v : vO (offK l h.Office) = true
 s : hasS (offK l h.Office) h = true
 o : offH l h.Office = true
theorem vO_z : vO Kg.z = false := by decide
theorem hdOk_of {l : List Kg} {h : Kc} (hh : whB l h = true) : HdOk l h := by
 have h0 : (provS (offK l h.Office) h 0).2 = 0 := eq_of_beq hh; unfold provS at h0; cases h1 : (vO (offK l h.Office) && (fH h && decide (h.Size ≤ (offK l h.Office).Entries.length ∧ (0 : Int) ≤ 0 ∧ 0 < h.Size))) with
 | false => rw [h1] at h0; simp at h0
 | true =>
  rw [h1, if_pos rfl] at h0; simp only [Bool.and_eq_true, decide_eq_true_eq] at h1
  split at h0
  ·rename_i h2
   have h2 := of_decide_eq_true h2; refine ⟨h1.2.1, h1.1, ?_, ?_⟩
   ·unfold hasS; rw [decide_eq_true h2.1, decide_eq_true h1.2.2.1, decide_eq_true h2.2.symm]; rfl
   ·rcases offK_cases l h.Office with ⟨e, _⟩ | ⟨_, _, e⟩
    ·rw [e, vO_z] at h1; simp at h1
    ·exact e
  ·simp at h0
theorem HdOk.size {l : List Kg} {h : Kc} (q : HdOk l h) : 1 ≤ h.Size ∧ h.Size ≤ ((offK l h.Office).Entries.length : Int) := ⟨(fH_size q.f).1, (hasS_spec q.s).2.1⟩
def zHd : Kc := ⟨0, 0, 0, ⟨0, 0⟩⟩
def lastH (c : Kj) : Kc := c.heads.getD (c.heads.length - 1) zHd
theorem last_p {c : Kj} (h : 0 < c.heads.length) (h2 : c.heads.length ≤ 100) (F : Nat) : G1 F c = some (lastH c) := by
 unfold G1 lastH; rw [w64_p h (by omega), ixI_get (by omega), List.getD_eq_getElem?_getD, List.getElem?_eq_getElem (by omega)]; rfl
def atS (l : List Kg) (h : Kc) (d : Int) : Option Nat := ((offK l h.Office).Entries.take h.Size.toNat).findIdx? fun e => e.Doc == d
def nextS (l : List Kg) (c : Kj) (h : Kc) : Option Kj :=
 if c.heads.any (fun g => g.Office == h.Office) then none else (atS l h (digF (lastH c))).map fun x => ⟨c.heads ++ [h], x⟩
def longS (l : List Kg) (heads : List Kc) (c : Kj) : List Kj := heads.filterMap (nextS l c)
def snocO {β : Type} (b : List β) : Option β → List β
 | some y => b ++ [y]
 | none => b
theorem fold_fm {α β : Type} (f : α → Option β) : ∀ (l : List α) (b : List β), l.foldl (fun b x => snocO b (f x)) b = b ++ l.filterMap f
 | [], b => by simp
 | x :: l, b => by
  rw [List.foldl_cons, fold_fm f l, List.filterMap_cons]; cases f x <;> simp [snocO]
theorem sliTo {α : Type} {l : List α} {n : Int} (h : 0 ≤ n) (h2 : n ≤ (l.length : Int)) : slI l 0 n = some (l.take n.toNat) := by
 unfold slI; rw [if_pos (by omega)]
 simp
theorem long_p {l : List Kg} {heads : List Kc} {c : Kj} (hl : FewO l) (hn : heads.length ≤ 12) (hr : ∀ h ∈ heads, HdOk l h) (h1 : 0 < c.heads.length) (h2 : c.heads.length ≤ 12) (h3 : (lastH c).rng) {F : Nat} (hF : 64 ≤ F) :
  Ga2 F (arcO l heads) c = some (longS l heads c) := by
 unfold Ga2; rw [last_p h1 (by omega), ob_some, dig_p h3 hF, ob_some, show (arcO l heads).heads = heads from rfl]; rw [iter_fold (fun (b : List Kj) i => (i, b)) heads (fun b x => snocO b (nextS l c x)) id (fun k b => b.length ≤ k) (fun b _ => ?_) (fun b k h hb => ⟨?_, ?_⟩) (by omega) [] (by simp), fold_fm]
 ·rfl
 ·simp only [un2, ltn, ifB_f, id]
 ·have hk := hr _ (List.getElem_mem h); simp only [un2, ltl h, ifB_t, ixI_get h, ob_some, w64_1 h (by omega)]; rw [iter_fdL c.heads (fun g => g.Office == heads[k].Office) (.inl ()) (fun _ => .inr ()) ?a1 ?a2 (by omega)]
  case a1 => simp only [ltn, ifB_f]
  case a2 =>
   intro j hj; simp only [ltl hj, ifB_t, ixI_get hj, ob_some, w64_1 hj (by omega)]; cases c.heads[j].Office == heads[k].Office <;> rfl
  unfold nextS; have hany : c.heads.any (fun g => g.Office == heads[k].Office) = (c.heads.findIdx? (fun g => g.Office == heads[k].Office)).isSome := by
   rw [List.findIdx?_isSome]
  rw [hany]; cases c.heads.findIdx? (fun g => g.Office == heads[k].Office) with
  | some j => rfl
  | none =>
   have hs := hk.size; have hlen := hl.len heads[k].Office; simp only [ob_some, Sum.elim_inl, Option.isSome_none, Bool.false_eq_true, if_false]; rw [show mpG (arcO l heads).offices heads[k].Office Kg.z = offK l heads[k].Office from rfl, sliTo (by omega) hs.2, ob_some]; have htl : ((offK l heads[k].Office).Entries.take heads[k].Size.toNat).length ≤ 50 := by rw [List.length_take]; omega
   rw [iter_fdL ((offK l heads[k].Office).Entries.take heads[k].Size.toNat) (fun e => e.Doc == digF (lastH c)) (.inl ()) (fun j => .inr (j : Int)) ?b1 ?b2 (by omega)]
   case b1 => simp only [ltn, ifB_f]
   case b2 =>
    intro j hj; simp only [ltl hj, ifB_t, ixI_get hj, ob_some, w64_1 hj (by omega)]; cases ((offK l heads[k].Office).Entries.take heads[k].Size.toNat)[j].Doc == digF (lastH c) <;> rfl
   show _ = some (Sum.inl _)
   unfold atS; cases ((offK l heads[k].Office).Entries.take heads[k].Size.toNat).findIdx? (fun e => e.Doc == digF (lastH c)) with
   | none => rfl
   | some j =>
    simp only [ob_some, Sum.elim_inr]; rw [decide_eq_true (p := ((j : Nat) : Int) ≥ 0) (by omega), ifB_t, apG_ok (by simp only [List.length_nil]; omega), ob_some, apG_ok (by simp only [List.length_cons, List.length_nil]; omega), ob_some, apG_ok (by simp only [List.length_cons, List.length_nil]; omega)]; rfl
 ·cases nextS l c heads[k] with
  | none => exact Nat.le_succ_of_le hb
  | some y => simp only [snocO, List.length_append, List.length_cons, List.length_nil]; omega
theorem lastH_get {c : Kj} (h : 0 < c.heads.length) : c.heads[c.heads.length - 1]? = some (lastH c) := by
 unfold lastH; rw [List.getD_eq_getElem?_getD, List.getElem?_eq_getElem (by omega)]; rfl
theorem lastH_mem {c : Kj} (h : 0 < c.heads.length) : lastH c ∈ c.heads := List.mem_of_getElem? (lastH_get h)
structure COk (heads : List Kc) (n : Nat) (c : Kj) : Prop where
 n : c.heads.length = n
 m : ∀ h ∈ c.heads, h ∈ heads
theorem next_spec {l : List Kg} {c d : Kj} {h : Kc} (e : nextS l c h = some d) : (c.heads.any (fun g => g.Office == h.Office)) = false ∧ ∃ x, atS l h (digF (lastH c)) = some x ∧ d = ⟨c.heads ++ [h], x⟩ := by
 unfold nextS at e
 split at e
 ·cases e
 ·rename_i h0
  cases ha : atS l h (digF (lastH c)) with
  | none => rw [ha] at e; cases e
  | some x => rw [ha] at e; exact ⟨by simpa using h0, x, rfl, (Option.some.inj e).symm⟩
theorem long_ok {l : List Kg} {heads : List Kc} {n : Nat} {c d : Kj} (hc : COk heads n c) (hd : d ∈ longS l heads c) : COk heads (n + 1) d := by
 unfold longS at hd; rw [List.mem_filterMap] at hd; obtain ⟨h, hh, e⟩ := hd; obtain ⟨_, x, _, rfl⟩ := next_spec e; refine ⟨by simp [hc.n], fun g hg => ?_⟩; rcases List.mem_append.1 hg with hg | hg
 ·exact hc.m g hg
 ·rw [List.mem_singleton] at hg; rw [hg]; exact hh
theorem long_len (l : List Kg) (heads : List Kc) (c : Kj) : (longS l heads c).length ≤ heads.length := List.length_filterMap_le _ _
def finB (dst k : Int) (c : Kj) : Bool := ((lastH c).Office == dst) && (decide ((lastH c).Size > k) && decide (k > c.at_))
def lev0 (heads : List Kc) (from_ i : Int) : List Kj := heads.filterMap fun h => if ((h.Office == from_) && decide (h.Size > i)) = true then some ⟨[h], i⟩ else none
def goS (l : List Kg) (heads : List Kc) (dst k : Int) : Nat → List Kj → Option Kj
 | 0, _ => none
 | n + 1, lv => match lv.find? (finB dst k) with
  | some c => some c
  | none => goS l heads dst k n (lv.flatMap (longS l heads))
def srchS (l : List Kg) (heads : List Kc) (from_ i dst k : Int) : Option Kj := goS l heads dst k 4 (lev0 heads from_ i)
theorem lev0_ok {heads : List Kc} {from_ i : Int} {c : Kj} (hc : c ∈ lev0 heads from_ i) : COk heads 1 c ∧ (∃ h, h ∈ heads ∧ c = ⟨[h], i⟩ ∧ h.Office = from_ ∧ h.Size > i) := by
 unfold lev0 at hc; rw [List.mem_filterMap] at hc; obtain ⟨h, hh, e⟩ := hc
 split at e
 ·rename_i h0
  cases e; rw [Bool.and_eq_true, beq_iff_eq, decide_eq_true_eq] at h0; exact ⟨⟨rfl, fun g hg => by rw [List.mem_singleton] at hg; rw [hg]; exact hh⟩, h, hh, rfl, h0.1, h0.2⟩
 ·cases e
theorem flat_len {α β : Type} (f : α → List β) (m : Nat) (hf : ∀ x, (f x).length ≤ m) : ∀ l : List α, (l.flatMap f).length ≤ l.length * m
 | [] => by simp
 | x :: l => by
  rw [List.flatMap_cons, List.length_append, List.length_cons, Nat.add_mul]; have := flat_len f m hf l; have := hf x; omega
def runV (l : List Kg) (heads : List Kc) (dst k : Int) : List Kj → List Kj → List Kj ⊕ Kj
 | [], b => .inl b
 | c :: cs, b => if finB dst k c = true then .inr c else runV l heads dst k cs (b ++ longS l heads c)
theorem runV_eq (l : List Kg) (heads : List Kc) (dst k : Int) : ∀ (cs b : List Kj), runV l heads dst k cs b = match cs.find? (finB dst k) with | some c => .inr c | none => .inl (b ++ cs.flatMap (longS l heads))
 | [], b => by simp [runV]
 | c :: cs, b => by
  rw [runV, List.find?_cons]; cases finB dst k c with
  | true => rfl
  | false =>
   rw [if_neg (by decide), runV_eq l heads dst k cs]; simp only [List.flatMap_cons, List.append_assoc]
def stepS (l : List Kg) (heads : List Kc) (dst k : Int) (lv : List Kj) : List Kj ⊕ Kj := runV l heads dst k lv []
def runG (l : List Kg) (heads : List Kc) (dst k : Int) : List Nat → List Kj → Unit ⊕ Kj
 | [], _ => .inl ()
 | _ :: ns, lv => match stepS l heads dst k lv with
  | .inl lv' => runG l heads dst k ns lv'
  | .inr c => .inr c
theorem runG_eq (l : List Kg) (heads : List Kc) (dst k : Int) : ∀ (ns : List Nat) (lv : List Kj), runG l heads dst k ns lv = match goS l heads dst k ns.length lv with | some c => .inr c | none => .inl ()
 | [], lv => rfl
 | n :: ns, lv => by
  rw [runG, stepS, runV_eq, List.length_cons, goS]; cases lv.find? (finB dst k) with
  | some c => rfl
  | none =>
   simp only [List.nil_append]; exact runG_eq l heads dst k ns _
def outS : Option Kj → Kj × Bool
 | some c => (c, true)
 | none => (⟨[], 0⟩, false)
theorem srch_p {l : List Kg} {heads : List Kc} {from_ i dst k : Int} (hl : FewO l) (hn : heads.length ≤ 12) (hr : ∀ h ∈ heads, HdOk l h) (hg : ∀ h ∈ heads, h.rng) {F : Nat} (hF : 21000 ≤ F) :
  Ga3 F (arcO l heads) from_ i dst k = some (outS (srchS l heads from_ i dst k)) := by
 unfold Ga3 srchS; rw [show (arcO l heads).heads = heads from rfl]; rw [iter_fold (fun (b : List Kj) j => ((b, i, j, dst, k) : List Kj × Int × Int × Int × Int)) heads (fun b h => snocO b (if ((h.Office == from_) && decide (h.Size > i)) = true then some ⟨[h], i⟩ else none)) (fun b => (b, dst, k)) (fun j b => b.length ≤ j) (fun b _ => ?_) (fun b j h hb => ⟨?_, ?_⟩) (by omega) [] (by simp), fold_fm]
 ·rw [show (fun h : Kc => if ((h.Office == from_) && decide (h.Size > i)) = true then some (⟨[h], i⟩ : Kj) else none) = (fun h : Kc => if ((h.Office == from_) && decide (h.Size > i)) = true then some ⟨[h], i⟩ else none) from rfl, show ([] : List Kj) ++ heads.filterMap (fun h : Kc => if ((h.Office == from_) && decide (h.Size > i)) = true then some ⟨[h], i⟩ else none) = lev0 heads from_ i from List.nil_append _]; simp only [ob_some, un3]; rw [iter_foldX (β := List Kj) (τ := Kj) (fun b j => ((b, j) : List Kj × Int)) (List.range 4) (fun b _ => stepS l heads dst k b) (fun _ => .inl ()) (fun c => .inr c) (fun j b => b.length ≤ 12 ^ (j + 1) ∧ ∀ c ∈ b, COk heads (j + 1) c) (runG l heads dst k) (fun _ => rfl) (fun x xs b => ?_) (fun b _ => ?_) (fun b j h hb => ⟨?_, fun b' h' => ?_⟩) (by rw [List.length_range]; omega) (lev0 heads from_ i) ⟨?_, fun c hc => (lev0_ok hc).1⟩, runG_eq]
  ·rw [List.length_range]; cases goS l heads dst k 4 (lev0 heads from_ i) <;> rfl
  ·refine Nat.le_trans (List.length_filterMap_le _ _) ?_
   simpa using hn
  ·rw [runG]; cases stepS l heads dst k b <;> rfl
  ·rw [List.length_range]; rfl
  ·rw [List.length_range] at h; simp only [un2]; rw [decide_eq_true (p := (j : Int) < 4) (by omega), ifB_t]; have hp : 12 ^ (j + 1) ≤ 20736 := Nat.le_trans (Nat.pow_le_pow_right (by decide) (by omega : j + 1 ≤ 4)) (by decide); rw [iter_foldX (β := List Kj) (τ := Kj) (fun b j => ((b, j) : List Kj × Int)) b (fun b c => if finB dst k c = true then .inr c else .inl (b ++ longS l heads c)) (fun b => .inl b) (fun c => .inr c) (fun j b => b.length ≤ j * 12) (runV l heads dst k) (fun _ => rfl) (fun x xs b => ?_) (fun b _ => ?_) (fun b' j' h' hb' => ⟨?_, fun b'' h'' => ?_⟩) (by omega) [] (by simp)]
   ·rw [w64_id (n := (j : Int) + 1) (by omega) (by omega)]; unfold stepS; cases runV l heads dst k b [] <;> rfl
   ·rw [runV]; split <;> rfl
   ·simp only [un2, ltn, ifB_f]
   ·have hc := hb.2 _ (List.getElem_mem h'); have h0 : 0 < b[j'].heads.length := by rw [hc.n]; omega
    have h12 : b[j'].heads.length ≤ 12 := by rw [hc.n]; omega
    simp only [un2, ltl h', ifB_t, ixI_get h', ob_some, w64_1 h' (by omega)]; rw [last_p h0 (by omega), ob_some]; have e1 : (ifB ((lastH b[j']).Office == dst) (ifB (decide ((lastH b[j']).Size > k)) (some (decide (k > b[j'].at_))) (some false)) (some false) : Option Bool) = some (finB dst k b[j']) := by
     unfold finB; cases ((lastH b[j']).Office == dst) <;> cases decide ((lastH b[j']).Size > k) <;> rfl
    rw [e1, ob_some]; cases finB dst k b[j'] with
    | true => rfl
    | false =>
     have hlo := long_len l heads b[j']; rw [ifB_f, long_p hl hn hr h0 h12 (hg _ (hc.m _ (lastH_mem h0))) (by omega), ob_some, apG_ok (by omega)]; rfl
   ·split at h''
    ·cases h''
    ·cases h''; have hlo := long_len l heads b[j']; rw [List.length_append, Nat.add_mul]; omega
  ·unfold stepS at h'; rw [runV_eq] at h'; cases hf : b.find? (finB dst k) with
   | some c => rw [hf] at h'; cases h'
   | none =>
    rw [hf] at h'; cases h'; rw [List.nil_append]; refine ⟨?_, fun c hc => ?_⟩
    ·refine Nat.le_trans (flat_len (longS l heads) 12 (fun x => Nat.le_trans (long_len l heads x) hn) b) ?_; rw [Nat.pow_succ]; exact Nat.mul_le_mul_right 12 hb.1
    ·obtain ⟨d, hd, hc⟩ := List.mem_flatMap.1 hc; exact long_ok (hb.2 d hd) hc
 ·simp only [un5, ltn, ifB_f]
 ·simp only [un5, ltl h, ifB_t, ixI_get h, ob_some, w64_1 h (by omega)]; have e1 : (ifB (heads[j].Office == from_) (some (decide (heads[j].Size > i))) (some false) : Option Bool) = some ((heads[j].Office == from_) && decide (heads[j].Size > i)) := by
   cases heads[j].Office == from_ <;> rfl
  rw [e1, ob_some]; cases ((heads[j].Office == from_) && decide (heads[j].Size > i)) with
  | false => rfl
  | true =>
   rw [ifB_t, apG_ok (by simp only [List.length_cons, List.length_nil]; omega)]; rfl
 ·split
  ·simp only [snocO, List.length_append, List.length_cons, List.length_nil]; omega
  ·exact Nat.le_succ_of_le hb
inductive Lk (l : List Kg) (heads : List Kc) (src i : Int) : Kj → Prop
 | one (h : Kc) : h ∈ heads → h.Office = src → h.Size > i → Lk l heads src i ⟨[h], i⟩
 | more (c : Kj) (h : Kc) (x : Nat) : Lk l heads src i c → h ∈ heads → c.heads.any (fun g => g.Office == h.Office) = false → atS l h (digF (lastH c)) = some x → Lk l heads src i ⟨c.heads ++ [h], x⟩
theorem Lk.pos {l : List Kg} {heads : List Kc} {src i : Int} {c : Kj} (h : Lk l heads src i c) : 0 < c.heads.length := by
 cases h <;> simp
theorem Lk.mem {l : List Kg} {heads : List Kc} {src i : Int} {c : Kj} (h : Lk l heads src i c) : ∀ g ∈ c.heads, g ∈ heads := by
 induction h with
 | one h hh _ _ => intro g hg; rw [List.mem_singleton] at hg; rw [hg]; exact hh
 | more c h x _ hh _ _ ih =>
  intro g hg; rcases List.mem_append.1 hg with hg | hg
  ·exact ih g hg
  ·rw [List.mem_singleton] at hg; rw [hg]; exact hh
theorem lev0_lk {l : List Kg} {heads : List Kc} {src i : Int} {c : Kj} (hc : c ∈ lev0 heads src i) : Lk l heads src i c := by
 obtain ⟨_, h, hh, rfl, h1, h2⟩ := lev0_ok hc; exact .one h hh h1 h2
theorem long_lk {l : List Kg} {heads : List Kc} {src i : Int} {c d : Kj} (h : Lk l heads src i c) (hd : d ∈ longS l heads c) : Lk l heads src i d := by
 unfold longS at hd; rw [List.mem_filterMap] at hd; obtain ⟨g, hg, e⟩ := hd; obtain ⟨e1, x, e2, rfl⟩ := next_spec e; exact .more c g x h hg e1 e2
theorem goS_lk {l : List Kg} {heads : List Kc} {src i dst k : Int} {c : Kj} : ∀ (n m : Nat) (lv : List Kj), (∀ c ∈ lv, Lk l heads src i c ∧ c.heads.length = m) → goS l heads dst k n lv = some c → Lk l heads src i c ∧ finB dst k c = true ∧ m ≤ c.heads.length ∧ c.heads.length < m + n
 | 0, _, _, _, e => by cases e
 | n + 1, m, lv, hlv, e => by
  rw [goS] at e; cases hf : lv.find? (finB dst k) with
  | some d =>
   rw [hf] at e; cases e; have := hlv _ (List.mem_of_find?_eq_some hf); exact ⟨this.1, List.find?_some hf, by omega, by omega⟩
  | none =>
   rw [hf] at e; have := goS_lk (src := src) (i := i) n (m + 1) _ (fun d hd => ?_) e
   ·exact ⟨this.1, this.2.1, by omega, by omega⟩
   ·obtain ⟨b, hb, hd⟩ := List.mem_flatMap.1 hd; refine ⟨long_lk (hlv b hb).1 hd, ?_⟩; unfold longS at hd; rw [List.mem_filterMap] at hd; obtain ⟨g, hg, e⟩ := hd; obtain ⟨e1, x, e2, rfl⟩ := next_spec e
    simp [(hlv b hb).2]
theorem srch_lk {l : List Kg} {heads : List Kc} {src i dst k : Int} {c : Kj} (h : srchS l heads src i dst k = some c) : Lk l heads src i c ∧ finB dst k c = true ∧ c.heads.length ≤ 4 := by
 have := goS_lk 4 1 _ (fun c hc => ⟨lev0_lk hc, (lev0_ok hc).1.n⟩) h; exact ⟨this.1, this.2.1, by omega⟩
def zP : Km := ⟨zR, [], [], zR⟩
def hopW (l : List Kg) (p : Kc × Kc) : KHop := (witS (offK l p.1.Office) p.1 p.1 (offK l p.2.Office) p.2).1
def hopsL (l : List Kg) (hs : List Kc) : List KHop := (hs.zip (hs.drop 1)).map (hopW l)
def prfS (l : List Kg) (c : Kj) (src i dst k : Int) : Km :=
 ⟨(provS (offK l src) (c.heads.getD 0 zHd) i).1, hopsL l c.heads, [], (provS (offK l dst) (lastH c) k).1⟩
def findS (l : List Kg) (heads : List Kc) (src i dst k : Int) : Km × Bool × Int :=
 if (arcS l heads).2 == 0 then
  (if entB l src i && entB l dst k then
   (if heads.all (whB l) then
    (match srchS l heads src i dst k with
    | some c => (prfS l c src i dst k, true, 0)
    | none => (zP, false, 0))
   else (zP, false, 33))
  else (zP, false, 1))
 else (zP, false, (arcS l heads).2)
theorem arcS_ok {l : List Kg} {heads : List Kc} (h : ((arcS l heads).2 == 0) = true) : arcS l heads = (some (arcO l heads), 0) ∧ l.length ≤ 4 ∧ heads.length ≤ 12 ∧ arcF 0 l = true ∧ heads.all fH = true := by
 unfold arcS at h ⊢
 split at h
 ·rename_i h1
  rw [if_pos h1]
  split at h
  ·rename_i h2
   rw [if_pos h2]; simp only [Bool.and_eq_true, decide_eq_true_eq] at h1 h2; exact ⟨rfl, h1.1, h1.2, h2.1, h2.2⟩
  ·cases h
 ·cases h
theorem find_p {l : List Kg} {heads : List Kc} {src i dst k : Int} (hl : FewO l) (hg : ∀ h ∈ heads, h.rng) {F : Nat} (hF : 21000 ≤ F) :
  Gg F l heads src i dst k = some (findS l heads src i dst k) := by
 unfold Gg findS; rw [arc_p hl hg (by omega), ob_some, un2_p]; cases h0 : ((arcS l heads).2 == 0) with
 | false => rfl
 | true =>
 obtain ⟨h1, h2, h3, h4, h5⟩ := arcS_ok h0; rw [h1]; simp only [ifB_t, ob_some, ent_p, if_true]; have e1 : (ifB (entB l src i) (some (!entB l dst k)) (some true) : Option Bool) = some (!(entB l src i && entB l dst k)) := by
  cases entB l src i <;> rfl
 rw [e1, ob_some]; cases (entB l src i && entB l dst k) with
 | false => rfl
 | true =>
 simp only [Bool.not_true, ifB_f, if_true]; rw [wh_p hl h3 (by omega), ob_some]; cases hw : heads.all (whB l) with
 | false => rfl
 | true =>
 have hr : ∀ h ∈ heads, HdOk l h := fun h hh => hdOk_of (List.all_eq_true.1 hw h hh)
 rw [ifB_t, srch_p hl h3 hr hg hF, ob_some]; cases hs : srchS l heads src i dst k with
 | none => rfl
 | some c =>
 obtain ⟨lk, _, hc4⟩ := srch_lk hs; have h0 := lk.pos; rw [outS, un2_p, ifB_t]; rw [show mpG (arcO l heads).offices src Kg.z = offK l src from rfl]; rw [show ixI c.heads 0 = some (c.heads.getD 0 zHd) by
  rw [show (0 : Int) = ((0 : Nat) : Int) from rfl, ixI_get h0, List.getD_eq_getElem?_getD, List.getElem?_eq_getElem h0]; rfl]
 have hz : ∀ h ∈ c.heads, h.rng := fun h hh => hg h (lk.mem h hh)
 rw [ob_some, prove_p (hl.rng _) (hl.len _) (by omega), ob_some, un2_p, show mpG (arcO l heads).offices dst Kg.z = offK l dst from rfl, last_p h0 (by omega), ob_some, prove_p (hl.rng _) (hl.len _) (by omega), ob_some, un2_p, ob_some]; rw [show slI c.heads 1 (c.heads.length : Int) = some (c.heads.drop 1) by
  rw [show (1 : Int) = ((1 : Nat) : Int) from rfl, slI_ok (by omega) (Nat.le_refl _), List.take_length], ob_some]
 have hzl : (c.heads.zip (c.heads.drop 1)).length = (c.heads.drop 1).length := by
  rw [List.length_zip, List.length_drop]; omega
 have hdl : (c.heads.drop 1).length ≤ 4 := by rw [List.length_drop]; omega
 rw [iter_fold (fun (b : List KHop) j => ((b, j) : List KHop × Int)) (c.heads.zip (c.heads.drop 1)) (fun b p => b ++ [hopW l p]) id (fun j b => b.length ≤ j) (fun b _ => ?_) (fun b j h hb => ⟨?_, ?_⟩) (by omega) [] (by simp), fold_snoc]
 ·rfl
 ·rw [hzl]; simp only [un2, ltn, ifB_f, id]
 ·have hj : j < (c.heads.drop 1).length := by omega
  have hj' : j < c.heads.length := by rw [List.length_drop] at hj; omega
  simp only [un2, ltl hj, ifB_t, ixI_get hj, ixI_get hj', ob_some, w64_1 hj (by omega)]; rw [show mpG (arcO l heads).offices c.heads[j].Office Kg.z = offK l c.heads[j].Office from rfl, show mpG (arcO l heads).offices (c.heads.drop 1)[j].Office Kg.z = offK l (c.heads.drop 1)[j].Office from rfl]; rw [wit_p (hl.rng _) (hl.rng _) (hl.len _) (hl.len _) (hz _ (List.getElem_mem hj')) (hz _ (List.getElem_mem hj')) (hz _ (List.mem_of_mem_drop (List.getElem_mem hj))) (by omega), ob_some, un2_p, ob_some]; simp only [un16]; rw [apG_ok (by simp only [List.length_cons, List.length_nil]; omega), ob_some]; rw [show (c.heads.zip (c.heads.drop 1))[j] = (c.heads[j], (c.heads.drop 1)[j]) from List.getElem_zip ..]; rfl
 ·simp only [List.length_append, List.length_cons, List.length_nil]; omega
def fsI {α γ : Type} (h : Nat → α → Option γ) : List α → Nat → Option γ
 | [], _ => none
 | x :: xs, k => match h k x with
  | some r => some r
  | none => fsI h xs (k + 1)
def fsN {γ : Type} (G : Nat → Option γ) : Nat → Nat → Option γ
 | 0, _ => none
 | n + 1, k => match G k with
  | some r => some r
  | none => fsN G n (k + 1)
theorem fsI_N {α γ : Type} (G : Nat → Option γ) : ∀ (l : List α) (k : Nat), fsI (fun m _ => G m) l k = fsN G l.length k
 | [], _ => rfl
 | x :: l, k => by
  rw [fsI, List.length_cons, fsN]; cases G k with
  | some r => rfl
  | none => exact fsI_N G l (k + 1)
theorem fsN_more {γ : Type} (G : Nat → Option γ) : ∀ (n d k : Nat), (∀ m, k + n ≤ m → G m = none) → fsN G (n + d) k = fsN G n k
 | 0, 0, k, _ => rfl
 | 0, d + 1, k, h => by
  have h1 : fsN G (0 + (d + 1)) k = (match G k with | some r => some r | none => fsN G d (k + 1)) := by rw [Nat.zero_add]; rfl
  rw [h1, h k (by omega)]; have := fsN_more G 0 d (k + 1) (fun m hm => h m (by omega)); rw [Nat.zero_add] at this; exact this
 | n + 1, d, k, h => by
  rw [show n + 1 + d = (n + d) + 1 by omega, fsN, fsN]; cases G k with
  | some r => rfl
  | none => exact fsN_more G n d (k + 1) (fun m hm => h m (by omega))
section
variable {σ ρ α γ : Type}
theorem iter_fs {f : σ → Option (σ ⊕ ρ)} (e : Int → σ) (l : List α) (h : Nat → α → Option γ) (a : ρ) (b : γ → ρ) (hn : f (e (l.length : Int)) = some (.inr a))
  (hk : ∀ k (hlt : k < l.length), f (e (k : Int)) = some (match h k l[k] with | some r => .inr (b r) | none => .inl (e ((k : Int) + 1)))) {F : Nat} (hF : l.length < F) :
  iter f F (e 0) = some (match fsI h l 0 with | some r => b r | none => a) := by
 refine iter_from (β := Unit) l (fun _ k => e (k : Int)) (fun _ k x => match h k x with | some r => .inr (b r) | none => .inl ()) (fun _ => a) (fun _ _ => True) (fun l k _ => match fsI h l k with | some r => b r | none => a) (fun _ _ => rfl) (fun x xs k _ => ?_) (fun _ _ => hn) (fun _ k hlt _ => ⟨?_, fun _ _ => trivial⟩) hF () trivial
 ·rw [fsI]; cases h k x <;> rfl
 ·rw [hk k hlt]; cases h k l[k] <;> rfl
end
def offI (l : List Kg) (k : Int) : Option Nat := l.findIdx? fun o => o.ID == k
theorem off_r {l : List Kg} (hl : l.length ≤ 6) (k : Int) {F : Nat} (hF : 64 ≤ F) : Gb F l k = some (fdI (offI l k)) := by
 unfold Gb; rw [iter_fdE (fun i => ((k, i) : Int × Int)) l (fun c => c.ID == k) (.inl ()) (fun k => .inr (k : Int)) ?_ ?_ (by omega)]
 ·unfold offI; cases List.findIdx? (fun c : Kg => c.ID == k) l <;> rfl
 ·simp only [un2, ltn, ifB_f]
 ·intro j h; simp only [un2, ltl h, ifB_t, ixI_get h, ob_some, w64_1 h (by omega)]; cases l[j].ID == k <;> rfl
theorem offI_cases (l : List Kg) (k : Int) : (offI l k = none ∧ offH l k = false) ∨ ∃ j, offI l k = some j ∧ l[j]? = some (offK l k) ∧ offH l k = true := by
 induction l with
 | nil => exact .inl ⟨rfl, rfl⟩
 | cons o l ih =>
  unfold offI at ih ⊢; rw [List.findIdx?_cons, offK_cons, offH_cons, show (k == o.ID) = (o.ID == k) from Bool.eq_iff_iff.2 (by rw [beq_iff_eq, beq_iff_eq]; exact eq_comm)]; cases h : o.ID == k with
  | true => exact .inr ⟨0, rfl, rfl, rfl⟩
  | false =>
   rcases ih with ⟨h1, h2⟩ | ⟨j, h1, h2, h3⟩
   ·exact .inl ⟨by rw [h1]; rfl, by rw [h2]; rfl⟩
   ·exact .inr ⟨j + 1, by rw [h1]; rfl, h2, by rw [h3]; rfl⟩
theorem offI_some {l : List Kg} {k : Int} (h : offH l k = true) : ∃ j, offI l k = some j ∧ l[j]? = some (offK l k) := by
 rcases offI_cases l k with ⟨_, e⟩ | ⟨j, e1, e2, _⟩
 ·rw [e] at h; cases h
 ·exact ⟨j, e1, e2⟩
theorem few_r {l : List Kg} {heads : List Kc} {F : Nat} (hl : l.length < F) (hn : l.length ≤ 9223372036854775807) : Gbl F l heads = some (l.all (fun o => decide (o.Entries.length ≤ 40)) && (decide (l.length ≤ 6) && decide (heads.length ≤ 20))) := by
 unfold Gbl; rw [iter_fs (γ := Unit) (fun i => ((heads, i) : List Kc × Int)) l (fun _ o => if decide (o.Entries.length ≤ 40) = true then none else some ()) (.inl heads) (fun _ => .inr ()) ?_ ?_ hl]
 ·have : ∀ (l : List Kg) (k : Nat), fsI (γ := Unit) (fun _ o => if decide (o.Entries.length ≤ 40) = true then none else some ()) l k = if l.all (fun o => decide (o.Entries.length ≤ 40)) = true then none else some () := by
   intro l
   induction l with
   | nil => intro k; rfl
   | cons o l ih =>
    intro k; rw [fsI, List.all_cons]; cases decide (o.Entries.length ≤ 40) with
    | true => simp only [if_true, Bool.true_and]; exact ih (k + 1)
    | false => simp
  rw [this]; cases l.all (fun o => decide (o.Entries.length ≤ 40)) with
  | false => rfl
  | true =>
   simp only [if_true, ob_some, Sum.elim_inl]; rw [show decide ((l.length : Int) ≤ 6) = decide (l.length ≤ 6) from deq (by omega), show decide ((heads.length : Int) ≤ 20) = decide (heads.length ≤ 20) from deq (by omega)]; cases decide (l.length ≤ 6) <;> rfl
 ·simp only [un2, ltn, ifB_f]
 ·intro k h; simp only [un2, ltl h, ifB_t, ixI_get h, ob_some, w64_1 h hn]; rw [dnot (p := ((l[k].Entries.length : Nat) : Int) > 40) (q := l[k].Entries.length ≤ 40) (by omega)]; cases decide (l[k].Entries.length ≤ 40) <;> rfl
def hsI (heads : List Kc) (cn : List Nat) : List Kc := cn.map fun n => heads.getD n zHd
theorem getD_at {heads : List Kc} {n : Nat} (h : n < heads.length) : heads.getD n zHd = heads[n] := by
 rw [List.getD_eq_getElem?_getD, List.getElem?_eq_getElem h]; rfl
def intsN (cn : List Nat) : List Int := cn.map fun (n : Nat) => (n : Int)
theorem logged_r {o : Kg} {n d : Int} (h0 : 0 ≤ n) (h1 : n ≤ (o.Entries.length : Int)) (hl : o.Entries.length ≤ 50) {F : Nat} (hF : 64 ≤ F) : Gbs F o n d = some (fdI ((o.Entries.take n.toNat).findIdx? fun e => e.Doc == d)) := by
 unfold Gbs; have hlen : (((o.Entries.take n.toNat).length : Nat) : Int) = n := by rw [List.length_take]; omega
 rw [iter_fdE (fun i => ((d, i) : Int × Int)) (o.Entries.take n.toNat) (fun e => e.Doc == d) (.inl ()) (fun k => .inr (k : Int)) ?_ ?_ (by omega)]
 ·cases (o.Entries.take n.toNat).findIdx? (fun e => e.Doc == d) <;> rfl
 ·simp only [un2, hlen]; rw [decide_eq_false (p := n < n) (by omega), ifB_f]
 ·intro k h; have hk : k < o.Entries.length := by rw [List.length_take] at h; omega
  simp only [un2]; rw [decide_eq_true (p := (k : Int) < n) (by omega), ifB_t, ixI_get hk, ob_some, w64_1 hk (by omega), List.getElem_take]; cases o.Entries[k].Doc == d <;> rfl
def goesS (l : List Kg) (heads : List Kc) (cn : List Nat) (h : Kc) : Int × Bool :=
 if (hsI heads cn).any (fun g => g.Office == h.Office) then (0, false) else (fdI (atS l h (digF (lastH ⟨hsI heads cn, 0⟩))), decide (fdI (atS l h (digF (lastH ⟨hsI heads cn, 0⟩))) ≥ 0))
theorem hsI_len (heads : List Kc) (cn : List Nat) : (hsI heads cn).length = cn.length := by unfold hsI; rw [List.length_map]
theorem goes_r {l : List Kg} {heads : List Kc} {cn : List Nat} {j : Nat} (hl : FewO l) (hn : heads.length ≤ 12) (hr : ∀ h ∈ heads, HdOk l h) (hg : ∀ h ∈ heads, h.rng) (h0 : 0 < cn.length) (h1 : cn.length ≤ 12) (hc : ∀ n ∈ cn, n < heads.length) (hj : j < heads.length) {F : Nat} (hF : 64 ≤ F) :
  Gbr F l heads (intsN cn) (j : Int) = some (goesS l heads cn heads[j]) := by
 unfold Gbr goesS; have hil : (intsN cn).length = cn.length := by unfold intsN; rw [List.length_map]
 have hin : ∀ (k : Nat) (hk : k < (intsN cn).length), (intsN cn)[k] = ((cn[k]'(by omega) : Nat) : Int) := fun k hk => by simp [intsN]
 rw [iter_fs (γ := Unit) (fun i => ((heads, i, intsN cn, (j : Int)) : List Kc × Int × List Int × Int)) (intsN cn) (fun k _ => if (heads.getD (cn.getD k 0) zHd).Office == heads[j].Office then some () else none) (.inl (heads, intsN cn, (j : Int))) (fun _ => .inr ()) ?_ ?_ (by omega)]
 ·have hfs : ∀ (cs : List Nat) (k : Nat), (∀ i, i < cs.length → cn.getD (k + i) 0 = cs.getD i 0) → fsI (γ := Unit) (fun k _ => if (heads.getD (cn.getD k 0) zHd).Office == heads[j].Office then some () else none) (intsN cs) k = if (hsI heads cs).any (fun g => g.Office == heads[j].Office) then some () else none := by
   intro cs
   induction cs with
   | nil => intro k _; rfl
   | cons c cs ih =>
    intro k hk; rw [show intsN (c :: cs) = (c : Int) :: intsN cs from rfl, fsI]; have := hk 0 (by simp); rw [Nat.add_zero] at this; rw [this, show (c :: cs).getD 0 0 = c from rfl, show hsI heads (c :: cs) = heads.getD c zHd :: hsI heads cs from rfl, List.any_cons]; cases (heads.getD c zHd).Office == heads[j].Office with
    | true => rfl
    | false =>
     rw [Bool.false_or]; refine ih (k + 1) fun i hi => ?_
     have := hk (i + 1) (by simpa using hi); rw [show k + 1 + i = k + (i + 1) by omega, this]; rfl
  rw [hfs cn 0 (fun i _ => by rw [Nat.zero_add])]; cases hany : (hsI heads cn).any (fun g => g.Office == heads[j].Office) with
  | true => rfl
  | false =>
   simp only [Bool.false_eq_true, if_false, ob_some, Sum.elim_inl, un3]; have hlast : (intsN cn)[cn.length - 1]? = some ((cn.getD (cn.length - 1) 0 : Nat) : Int) := by
    rw [List.getElem?_eq_getElem (by omega), hin, List.getD_eq_getElem?_getD, List.getElem?_eq_getElem (by omega)]; rfl
   have hcl : cn.getD (cn.length - 1) 0 < heads.length := by
    rw [List.getD_eq_getElem?_getD, List.getElem?_eq_getElem (by omega)]; exact hc _ (List.getElem_mem _)
   have hlh : lastH ⟨hsI heads cn, 0⟩ = heads[cn.getD (cn.length - 1) 0] := by
    unfold lastH; rw [hsI_len, ← getD_at hcl]; unfold hsI; rw [List.getD_eq_getElem?_getD, List.getElem?_map, List.getD_eq_getElem?_getD (l := cn), List.getElem?_eq_getElem (by omega)]; rfl
   have hk := hr _ (List.getElem_mem hj); have hs := hk.size; obtain ⟨x, hx1, hx2⟩ := offI_some hk.o; rw [hil, w64_p h0 (by omega), ixI_nat, hlast, ob_some, ixI_get hcl, ob_some, ixI_get hj, ob_some, off_r hl.n _ hF, hx1, ob_some, show ixI l (fdI (some x)) = some (offK l heads[j].Office) by rw [show fdI (some x) = (x : Int) from rfl, ixI_nat, hx2], ob_some, ob_some, dig_r (hg _ (List.getElem_mem hcl)) hF, ob_some, logged_r (by omega) hs.2 (hl.len _) hF, ob_some, hlh]; rfl
 ·simp only [un4, ltn, ifB_f]
 ·intro k h; have hk : k < cn.length := by omega
  have hck : cn[k] < heads.length := hc _ (List.getElem_mem hk); simp only [un4, ltl h, ifB_t, ixI_get h, ob_some, w64_1 h (by omega), hin k h, ixI_get hck, ixI_get hj]; rw [show cn.getD k 0 = cn[k] by rw [List.getD_eq_getElem?_getD, List.getElem?_eq_getElem hk]; rfl, getD_at hck]; cases heads[cn[k]].Office == heads[j].Office <;> rfl
theorem lastH_at (hs : List Kc) (x y : Int) : lastH ⟨hs, x⟩ = lastH ⟨hs, y⟩ := rfl
theorem last_ix {heads : List Kc} {cn : List Nat} (at_ : Int) (h0 : 0 < cn.length) (h1 : cn.length ≤ 100) (hc : ∀ n ∈ cn, n < heads.length) : ∃ c : Nat, c < heads.length ∧ c ∈ cn ∧ ixI (intsN cn) (IntKind.i64.wrap ((((intsN cn).length : Nat) : Int) - 1)) = some (c : Int) ∧ ixI heads (c : Int) = some (lastH ⟨hsI heads cn, at_⟩) := by
 have hil : (intsN cn).length = cn.length := by unfold intsN; rw [List.length_map]
 have hm : cn[cn.length - 1]'(by omega) ∈ cn := List.getElem_mem _; refine ⟨cn[cn.length - 1]'(by omega), hc _ hm, hm, ?_, ?_⟩
 ·rw [hil, w64_p h0 (by omega), ixI_get (by omega)]
  simp [intsN]
 ·rw [ixI_get (hc _ hm), ← getD_at (hc _ hm)]; unfold lastH; rw [hsI_len]; unfold hsI; rw [List.getD_eq_getElem?_getD (l := List.map _ _), List.getElem?_map, List.getElem?_eq_getElem (by omega)]; rfl
def dfsI (l : List Kg) (heads : List Kc) (dst k : Int) : Nat → List Nat → Int → Option (List Nat)
 | 0, cn, at_ => if finB dst k ⟨hsI heads cn, at_⟩ = true then some cn else none
 | m + 1, cn, at_ => fsI (fun j x => Option.bind (nextS l ⟨hsI heads cn, at_⟩ x) fun d => dfsI l heads dst k m (cn ++ [j]) d.at_) heads 0
def dfsO (m : Nat) (cn : List Nat) : Option (List Nat) → List Int × Bool
 | some L => (intsN L, true)
 | none => (if m = 0 then intsN cn else [], false)
theorem goes_next (l : List Kg) (heads : List Kc) (cn : List Nat) (at_ : Int) (h : Kc) : (nextS l ⟨hsI heads cn, at_⟩ h = none ∧ (goesS l heads cn h).2 = false) ∨ ∃ d, nextS l ⟨hsI heads cn, at_⟩ h = some d ∧ goesS l heads cn h = (d.at_, true) := by
 unfold nextS goesS; cases (hsI heads cn).any (fun g => g.Office == h.Office) with
 | true => exact .inl ⟨rfl, rfl⟩
 | false =>
  rw [lastH_at (hsI heads cn) 0 at_]; cases hx : atS l h (digF (lastH ⟨hsI heads cn, at_⟩)) with
  | none => exact .inl ⟨rfl, rfl⟩
  | some x =>
   refine .inr ⟨_, rfl, ?_⟩; rw [if_neg (by decide), decide_eq_true (p := fdI (some x) ≥ 0) (by show (0 : Int) ≤ (x : Int); omega)]; rfl
theorem search_r {l : List Kg} {heads : List Kc} {dst k : Int} (hl : FewO l) (hn : heads.length ≤ 12) (hr : ∀ h ∈ heads, HdOk l h) (hg : ∀ h ∈ heads, h.rng) :
  ∀ (m : Nat) (cn : List Nat) (at_ : Int) (F : Nat), 0 < cn.length → cn.length + m ≤ 12 → (∀ n ∈ cn, n < heads.length) → 65 + m ≤ F → Gaa F l heads (intsN cn) at_ (m : Int) dst k = some (dfsO m cn (dfsI l heads dst k m cn at_))
 | 0, cn, at_, F, h0, h1, hc, hF => by
  obtain ⟨F', rfl⟩ : ∃ F', F = F' + 1 := ⟨F - 1, by omega⟩; obtain ⟨c, hc1, _, e1, e2⟩ := last_ix at_ h0 (by omega) hc; rw [Gaa, e1, ob_some, e2, ob_some]; rw [show (((0 : Nat) : Int) == 0) = true from rfl, ifB_t]; have e3 : (ifB ((lastH ⟨hsI heads cn, at_⟩).Office == dst) (ifB (decide ((lastH ⟨hsI heads cn, at_⟩).Size > k)) (some (decide (k > at_))) (some false)) (some false) : Option Bool) = some (finB dst k ⟨hsI heads cn, at_⟩) := by
   unfold finB; cases ((lastH ⟨hsI heads cn, at_⟩).Office == dst) <;> cases decide ((lastH ⟨hsI heads cn, at_⟩).Size > k) <;> rfl
  rw [e3, ob_some, dfsI]; cases finB dst k ⟨hsI heads cn, at_⟩ <;> rfl
 | m + 1, cn, at_, F, h0, h1, hc, hF => by
  obtain ⟨F', rfl⟩ : ∃ F', F = F' + 1 := ⟨F - 1, by omega⟩; obtain ⟨c, hc1, _, e1, e2⟩ := last_ix at_ h0 (by omega) hc; have hil : (intsN cn).length = cn.length := by unfold intsN; rw [List.length_map]
  rw [Gaa, e1, ob_some, e2, ob_some]; rw [show (((m + 1 : Nat) : Int) == 0) = false from beq_eq_false_iff_ne.2 (by omega), ifB_f]; rw [iter_fs (fun i => i) heads (fun j x => Option.bind (nextS l ⟨hsI heads cn, at_⟩ x) fun d => dfsI l heads dst k m (cn ++ [j]) d.at_) (.inl ()) (fun L => .inr (intsN L)) ?_ ?_ (by omega)]
  ·rw [dfsI]; cases fsI (fun j x => Option.bind (nextS l ⟨hsI heads cn, at_⟩ x) fun d => dfsI l heads dst k m (cn ++ [j]) d.at_) heads 0 <;> rfl
  ·simp only [ltn, ifB_f]
  ·intro j hj; simp only [ltl hj, ifB_t, w64_1 hj (by omega)]; rw [goes_r hl hn hr hg h0 (by omega) hc hj (by omega), ob_some]; rcases goes_next l heads cn at_ heads[j] with ⟨q1, q2⟩ | ⟨d, q1, q2⟩
   ·rw [un2_p, q2, q1]; rfl
   ·rw [q1, q2, un2_p, ifB_t, ob_some, apG_ok (by simp only [List.length_nil]; omega), ob_some, apG_ok (by simp only [List.length_cons, List.length_nil, List.length_append]; omega), ob_some]; rw [show ([] ++ intsN cn) ++ [(j : Int)] = intsN (cn ++ [j]) by simp [intsN], show IntKind.i64.wrap (((m + 1 : Nat) : Int) - 1) = (m : Int) by rw [w64_id (by omega) (by omega)]; omega]; rw [search_r hl hn hr hg m (cn ++ [j]) d.at_ F' (by simp) (by simp only [List.length_append, List.length_cons, List.length_nil]; omega) (fun n hn' => ?_) (by omega), ob_some]
    ·generalize dfsI l heads dst k m (cn ++ [j]) d.at_ = o; cases o <;> rfl
    ·rcases List.mem_append.1 hn' with hn' | hn'
     ·exact hc n hn'
     ·rw [List.mem_singleton] at hn'; omega
def chN (l : List Kg) (heads : List Kc) (src i dst k : Int) (m : Nat) : Option (List Nat) :=
 fsI (fun n x => if ((x.Office == src) && decide (x.Size > i)) = true then dfsI l heads dst k m [n] i else none) heads 0
def chI (l : List Kg) (heads : List Kc) (src i dst k : Int) : Option (List Nat) := fsI (fun m _ => chN l heads src i dst k m) l 0
def chO : Option (List Nat) → List Int × Bool
 | some L => (intsN L, true)
 | none => ([], false)
theorem chain_r {l : List Kg} {heads : List Kc} {src i dst k : Int} (hl : FewO l) (hn : heads.length ≤ 12) (hr : ∀ h ∈ heads, HdOk l h) (hg : ∀ h ∈ heads, h.rng) {F : Nat} (hF : 100 ≤ F) :
  Gbj F l heads src i dst k = some (chO (chI l heads src i dst k)) := by
 unfold Gbj; have hln := hl.n; rw [iter_fs (fun j => ((heads, j, src, i, dst, k) : List Kc × Int × Int × Int × Int × Int)) l (fun m _ => chN l heads src i dst k m) (.inl ()) (fun L => .inr (intsN L)) ?_ ?_ (by omega)]
 ·unfold chI; cases fsI (fun m (_ : Kg) => chN l heads src i dst k m) l 0 <;> rfl
 ·simp only [un6, ltn, ifB_f]
 ·intro m hm; simp only [un6, ltl hm, ifB_t, w64_1 hm (by omega)]; rw [iter_fs (fun i => i) heads (fun n x => if ((x.Office == src) && decide (x.Size > i)) = true then dfsI l heads dst k m [n] i else none) (.inl ()) (fun L => .inr (intsN L)) ?_ ?_ (by omega)]
  ·unfold chN; generalize fsI (fun n x => if ((x.Office == src) && decide (x.Size > i)) = true then dfsI l heads dst k m [n] i else none) heads 0 = o; cases o <;> rfl
  ·simp only [ltn, ifB_f]
  ·intro n hn'; simp only [ltl hn', ifB_t, ixI_get hn', ob_some, w64_1 hn' (by omega)]; have e1 : (ifB (heads[n].Office == src) (some (decide (heads[n].Size > i))) (some false) : Option Bool) = some ((heads[n].Office == src) && decide (heads[n].Size > i)) := by
    cases heads[n].Office == src <;> rfl
   rw [e1, ob_some]; cases ((heads[n].Office == src) && decide (heads[n].Size > i)) with
   | false => rfl
   | true =>
    rw [ifB_t, show ([(n : Int)] : List Int) = intsN [n] from rfl, search_r hl hn hr hg m [n] i F (by simp) (by simp only [List.length_cons, List.length_nil]; omega) (fun q hq => by rw [List.mem_singleton] at hq; omega) (by omega), ob_some]; generalize dfsI l heads dst k m [n] i = o; cases o <;> rfl
def dfsC (l : List Kg) (heads : List Kc) (dst k : Int) : Nat → Kj → Option Kj
 | 0, c => if finB dst k c = true then some c else none
 | m + 1, c => (longS l heads c).findSome? (dfsC l heads dst k m)
theorem hsI_snoc (heads : List Kc) (cn : List Nat) (j : Nat) : hsI heads (cn ++ [j]) = hsI heads cn ++ [heads.getD j zHd] := by unfold hsI; simp
theorem next_heads {l : List Kg} {c d : Kj} {h : Kc} (e : nextS l c h = some d) : d.heads = c.heads ++ [h] := by
 obtain ⟨_, x, _, rfl⟩ := next_spec e; rfl
theorem dfs_map (l : List Kg) (heads : List Kc) (dst k : Int) : ∀ (m : Nat) (cn : List Nat) (at_ : Int), (dfsI l heads dst k m cn at_).map (hsI heads) = (dfsC l heads dst k m ⟨hsI heads cn, at_⟩).map (·.heads)
  | 0, cn, at_ => by
    rw [dfsI, dfsC]
    cases finB dst k ⟨hsI heads cn, at_⟩ <;> rfl
  | m + 1, cn, at_ => by
    rw [dfsI, dfsC, longS]
    have key : ∀ (xs : List Kc) (j : Nat), (∀ i, i < xs.length → heads.getD (j + i) zHd = xs.getD i zHd) →
        (fsI (fun j x => Option.bind (nextS l ⟨hsI heads cn, at_⟩ x) fun d => dfsI l heads dst k m (cn ++ [j]) d.at_) xs j).map (hsI heads) = ((xs.filterMap (nextS l ⟨hsI heads cn, at_⟩)).findSome? (dfsC l heads dst k m)).map (·.heads) := by
      intro xs
      induction xs with
      | nil => intro j _; rfl
      | cons x xs ih =>
        intro j hj
        have h0 := hj 0 (by simp)
        have ih' := ih (j + 1) fun i hi => by
          have := hj (i + 1) (by simpa using hi)
          rw [show j + 1 + i = j + (i + 1) by omega, this]; rfl
        rw [Nat.add_zero, show (x :: xs).getD 0 zHd = x from rfl] at h0
        rw [fsI, List.filterMap_cons]
        cases hx : nextS l ⟨hsI heads cn, at_⟩ x with
        | none => exact ih'
        | some d =>
          have hd : d = ⟨hsI heads (cn ++ [j]), d.at_⟩ := by
            rw [hsI_snoc, h0]
            have := next_heads hx
            cases d
            simp only at this
            rw [this]
          have hm := dfs_map l heads dst k m (cn ++ [j]) d.at_
          rw [← hd] at hm
          simp only [ob_some, List.findSome?_cons]
          cases e1 : dfsI l heads dst k m (cn ++ [j]) d.at_ with
          | some L =>
            rw [e1] at hm
            cases e2 : dfsC l heads dst k m d with
            | some c => rw [e2] at hm; exact hm
            | none => rw [e2] at hm; cases hm
          | none =>
            rw [e1] at hm
            cases e2 : dfsC l heads dst k m d with
            | some c => rw [e2] at hm; cases hm
            | none => exact ih'
    exact key heads 0 fun i _ => by rw [Nat.zero_add]
theorem chN_map (l : List Kg) (heads : List Kc) (src i dst k : Int) (m : Nat) : (chN l heads src i dst k m).map (hsI heads) = ((lev0 heads src i).findSome? (dfsC l heads dst k m)).map (·.heads) := by
  unfold chN lev0
  have key : ∀ (xs : List Kc) (j : Nat), (∀ q, q < xs.length → heads.getD (j + q) zHd = xs.getD q zHd) →
      (fsI (fun n x => if ((x.Office == src) && decide (x.Size > i)) = true then dfsI l heads dst k m [n] i else none) xs j).map (hsI heads) = ((xs.filterMap fun h => if ((h.Office == src) && decide (h.Size > i)) = true then some (⟨[h], i⟩ : Kj) else none).findSome? (dfsC l heads dst k m)).map (·.heads) := by
    intro xs
    induction xs with
    | nil => intro j _; rfl
    | cons x xs ih =>
      intro j hj
      have h0 := hj 0 (by simp)
      have ih' := ih (j + 1) fun q hq => by
        have := hj (q + 1) (by simpa using hq)
        rw [show j + 1 + q = j + (q + 1) by omega, this]; rfl
      rw [Nat.add_zero, show (x :: xs).getD 0 zHd = x from rfl] at h0
      rw [fsI, List.filterMap_cons]
      cases ((x.Office == src) && decide (x.Size > i)) with
      | false => exact ih'
      | true =>
        have hm := dfs_map l heads dst k m [j] i
        rw [show hsI heads [j] = [x] by unfold hsI; rw [List.map_singleton, h0]] at hm
        simp only [if_true, List.findSome?_cons]
        cases e1 : dfsI l heads dst k m [j] i with
        | some L =>
          rw [e1] at hm
          cases e2 : dfsC l heads dst k m ⟨[x], i⟩ with
          | some c => rw [e2] at hm; exact hm
          | none => rw [e2] at hm; cases hm
        | none =>
          rw [e1] at hm
          cases e2 : dfsC l heads dst k m ⟨[x], i⟩ with
          | some c => rw [e2] at hm; cases hm
          | none => exact ih'
  exact key heads 0 fun i _ => by rw [Nat.zero_add]
theorem fsN_shift {γ : Type} (G : Nat → Option γ) : ∀ (n k : Nat), fsN G n (k + 1) = fsN (fun m => G (m + 1)) n k
 | 0, _ => rfl
 | n + 1, k => by rw [fsN, fsN, fsN_shift G n (k + 1)]
theorem fsN_congr {γ : Type} {G H : Nat → Option γ} (h : ∀ m, G m = H m) (n k : Nat) : fsN G n k = fsN H n k := by rw [show G = H from funext h]
theorem fsN_map {γ δ : Type} (G : Nat → Option γ) (f : γ → δ) : ∀ (n k : Nat), (fsN G n k).map f = fsN (fun m => (G m).map f) n k
 | 0, _ => rfl
 | n + 1, k => by
  rw [fsN, fsN]; cases G k with
  | some r => rfl
  | none => exact fsN_map G f n (k + 1)
theorem fs_flat {α β γ : Type} (f : α → List β) (g : β → Option γ) : ∀ l : List α, (l.flatMap f).findSome? g = l.findSome? fun x => (f x).findSome? g
 | [] => rfl
 | x :: l => by
  rw [List.flatMap_cons, List.findSome?_append, List.findSome?_cons, fs_flat f g l]; cases (f x).findSome? g <;> rfl
theorem fs_find {α : Type} (p : α → Bool) : ∀ l : List α, (l.findSome? fun c => if p c = true then some c else none) = l.find? p
 | [] => rfl
 | x :: l => by
  rw [List.findSome?_cons, List.find?_cons, fs_find p l]; cases p x <;> rfl
theorem goS_N (l : List Kg) (heads : List Kc) (dst k : Int) : ∀ (n : Nat) (lv : List Kj), goS l heads dst k n lv = fsN (fun m => lv.findSome? (dfsC l heads dst k m)) n 0
 | 0, _ => rfl
 | n + 1, lv => by
  rw [goS, fsN, show lv.findSome? (dfsC l heads dst k 0) = lv.find? (finB dst k) from fs_find _ lv]; cases lv.find? (finB dst k) with
  | some c => rfl
  | none =>
   show goS l heads dst k n (lv.flatMap (longS l heads)) = _
   rw [goS_N l heads dst k n, fsN_shift]; exact fsN_congr (fun m => fs_flat _ _ lv) n 0
theorem dfsC_lk {l : List Kg} {heads : List Kc} {src i dst k : Int} : ∀ (m : Nat) {c d : Kj}, Lk l heads src i c → dfsC l heads dst k m c = some d → Lk l heads src i d ∧ d.heads.length = c.heads.length + m
 | 0, c, d, h, e => by
  rw [dfsC] at e
  split at e
  ·cases e; exact ⟨h, rfl⟩
  ·cases e
 | m + 1, c, d, h, e => by
  rw [dfsC] at e; obtain ⟨b, hb, e⟩ := List.exists_of_findSome?_eq_some e; have := dfsC_lk m (long_lk h hb) e; refine ⟨this.1, ?_⟩; unfold longS at hb; rw [List.mem_filterMap] at hb; obtain ⟨g, _, hg⟩ := hb; rw [this.2, next_heads hg]; simp only [List.length_append, List.length_cons, List.length_nil]; omega
theorem nodup_le {a b : List Int} (h : a.Nodup) (hs : ∀ x ∈ a, x ∈ b) : a.length ≤ b.length := by
 induction a generalizing b with
 | nil => exact Nat.zero_le _
 | cons x a ih =>
  rw [List.nodup_cons] at h; have hx := hs x List.mem_cons_self; have := ih h.2 (b := b.erase x) fun y hy => (List.mem_erase_of_ne (fun e : y = x => h.1 (by rw [← e]; exact hy))).2 (hs y (List.mem_cons_of_mem _ hy))
  rw [List.length_erase_of_mem hx] at this; have : 0 < b.length := List.length_pos_of_mem hx; rw [List.length_cons]; omega
theorem Lk.nodup {l : List Kg} {heads : List Kc} {src i : Int} {c : Kj} (h : Lk l heads src i c) : (c.heads.map (·.Office)).Nodup := by
 induction h with
 | one h _ _ _ => simp
 | more c h x _ _ ha _ ih =>
  rw [List.map_append, List.nodup_append]; refine ⟨ih, by simp, fun a ha' b hb => ?_⟩; rw [List.map_singleton, List.mem_singleton] at hb; subst hb; obtain ⟨g, hg, rfl⟩ := List.mem_map.1 ha'; have := List.any_eq_false.1 ha g hg; intro e; exact this (beq_iff_eq.2 e)
theorem Lk.len {l : List Kg} {heads : List Kc} {src i : Int} {c : Kj} (h : Lk l heads src i c) (hr : ∀ h ∈ heads, HdOk l h) : c.heads.length ≤ l.length := by
 have := nodup_le h.nodup (b := l.map (·.ID)) fun x hx => by
  obtain ⟨g, hg, rfl⟩ := List.mem_map.1 hx; rcases offK_cases l g.Office with ⟨_, e⟩ | ⟨e1, e2, _⟩
  ·rw [(hr g (h.mem g hg)).o] at e; cases e
  ·exact List.mem_map.2 ⟨_, e1, e2⟩
 rwa [lm_, List.length_map] at this
theorem chain_same {l : List Kg} {heads : List Kc} {src i dst k : Int} (h4 : l.length ≤ 4) (hr : ∀ h ∈ heads, HdOk l h) : (chI l heads src i dst k).map (hsI heads) = (srchS l heads src i dst k).map (·.heads) := by
 unfold chI srchS; rw [fsI_N, fsN_map, goS_N, fsN_map]; rw [fsN_congr (fun m => chN_map l heads src i dst k m)]; have := fsN_more (fun m => ((lev0 heads src i).findSome? (dfsC l heads dst k m)).map (·.heads)) l.length (4 - l.length) 0 fun m hm => ?_
 ·rw [show l.length + (4 - l.length) = 4 by omega] at this; exact this.symm
 ·cases e : (lev0 heads src i).findSome? (dfsC l heads dst k m) with
  | none => rfl
  | some d =>
   obtain ⟨b, hb, e⟩ := List.exists_of_findSome?_eq_some e; have hl := lev0_lk (l := l) hb; have h1 := dfsC_lk m hl e; have := h1.1.len hr; have := hl.pos; omega
theorem fsI_some {α γ : Type} {h : Nat → α → Option γ} : ∀ {l : List α} {k : Nat} {r : γ}, fsI h l k = some r → ∃ j x, j < k + l.length ∧ h j x = some r
 | [], _, _, e => by cases e
 | x :: l, k, r, e => by
  rw [fsI] at e; cases hx : h k x with
  | some r' =>
   rw [hx] at e; cases e; exact ⟨k, x, by rw [List.length_cons]; omega, hx⟩
  | none =>
   rw [hx] at e; obtain ⟨j, y, h1, h2⟩ := fsI_some (l := l) (k := k + 1) e; exact ⟨j, y, by rw [List.length_cons]; omega, h2⟩
theorem dfsI_lt {l : List Kg} {heads : List Kc} {dst k : Int} : ∀ (m : Nat) (cn : List Nat) (at_ : Int) (L : List Nat), (∀ n ∈ cn, n < heads.length) → dfsI l heads dst k m cn at_ = some L → ∀ n ∈ L, n < heads.length
 | 0, cn, at_, L, hc, e => by
  rw [dfsI] at e
  split at e
  ·cases e; exact hc
  ·cases e
 | m + 1, cn, at_, L, hc, e => by
  rw [dfsI] at e; obtain ⟨j, x, h1, h2⟩ := fsI_some e; cases hx : nextS l ⟨hsI heads cn, at_⟩ x with
  | none => rw [hx] at h2; cases h2
  | some d =>
   rw [hx] at h2; refine dfsI_lt m _ _ L (fun n hn => ?_) h2; rcases List.mem_append.1 hn with hn | hn
   ·exact hc n hn
   ·rw [List.mem_singleton] at hn; omega
theorem chI_lt {l : List Kg} {heads : List Kc} {src i dst k : Int} {L : List Nat} (e : chI l heads src i dst k = some L) : ∀ n ∈ L, n < heads.length := by
 unfold chI at e; obtain ⟨m, _, _, e⟩ := fsI_some e; unfold chN at e; obtain ⟨j, x, h1, h2⟩ := fsI_some e
 split at h2
 ·exact dfsI_lt m [j] i L (fun n hn => by rw [List.mem_singleton] at hn; omega) h2
 ·cases h2
def prevB (l : List Kg) (k : Nat) (o : Kg) : Bool := decide (k = 0) || decide ((l.getD (k - 1) Kg.z).ID < o.ID)
theorem vO_pos {o : Kg} (h : vO o = true) : 0 < o.ID := by have := (vO_iff.1 h).2.1; omega
theorem arc_fr (l : List Kg) : ∀ (xs : List Kg) (k : Nat) (a : Int), (k = 0 → a = 0) → (0 < k → (l.getD (k - 1) Kg.z).ID = a) → (∀ i, i < xs.length → l.getD (k + i) Kg.z = xs.getD i Kg.z) → frL (fun k o => vO o && prevB l k o) xs k = arcF a xs
 | [], _, _, _, _, _ => rfl
 | x :: xs, k, a, h0, h1, h2 => by
  have hx := h2 0 (by simp); rw [Nat.add_zero, show (x :: xs).getD 0 Kg.z = x from rfl] at hx; rw [frL, arcF, arc_fr l xs (k + 1) x.ID (fun e => by omega) (fun _ => by rw [Nat.add_sub_cancel, hx]) fun i hi => by
   have := h2 (i + 1) (by simpa using hi); rw [show k + 1 + i = k + (i + 1) by omega, this]; rfl]
  congr 1
  cases hv : vO x with
  | false => rfl
  | true =>
   rw [Bool.true_and, Bool.true_and]; unfold prevB
   by_cases hk : k = 0
   ·rw [decide_eq_true hk, h0 hk, decide_eq_true (vO_pos hv)]; rfl
   ·rw [decide_eq_false hk, h1 (by omega), Bool.false_or]
theorem wh_off {l : List Kg} {h : Kc} (e : offH l h.Office = false) : whB l h = false := by
 cases hw : whB l h with
 | false => rfl
 | true => have := (hdOk_of hw).o; rw [e] at this; cases this
def errS (l : List Kg) (heads : List Kc) (src i dst k : Int) : Int :=
 if (arcS l heads).2 == 0 then (if entB l src i && entB l dst k then (if heads.all (whB l) then 0 else 33) else 1) else (arcS l heads).2
theorem err_r {l : List Kg} {heads : List Kc} {src i dst k : Int} (hl : FewO l) {F : Nat} (hF : 64 ≤ F) : Gbq F l heads src i dst k = some (errS l heads src i dst k) := by
 unfold Gbq errS arcS; rw [dnot (p := (l.length : Int) > 4) (q := l.length ≤ 4) (by omega), dnot (p := (heads.length : Int) > 12) (q := heads.length ≤ 12) (by omega)]; cases q1 : decide (l.length ≤ 4) with
 | false => rfl
 | true =>
 cases q2 : decide (heads.length ≤ 12) with
 | false => rfl
 | true =>
 have q2' := of_decide_eq_true q2; have hn := hl.n; simp only [Bool.not_true, ifB_f, ob_some, un6, Bool.true_and, if_true]; rw [iter_chkU l (fun k o => vO o && prevB l k o) (.inl ()) (.inr ()) ?a1 ?a2 (by omega), arc_fr l l 0 0 (fun _ => rfl) (fun e => absurd e (by omega)) (fun i _ => by rw [Nat.zero_add])]
 case a1 => simp only [ltn, ifB_f]
 case a2 =>
  intro j h; simp only [ltl h, ifB_t, ixI_get h, ob_some, w64_1 h (by omega)]; rw [valid_r (hl.e _ (List.getElem_mem h)) hF, ob_some]; cases vO l[j] with
  | false => rfl
  | true =>
   rw [Bool.true_and, ifB_t]; unfold prevB
   by_cases hj : j = 0
   ·subst hj; rfl
   ·rw [decide_eq_true (p := (j : Int) > 0) (by omega), ifB_t, w64_p (by omega) (by omega), ixI_get (k := j - 1) (by omega), ob_some, ob_some, decide_eq_false hj, Bool.false_or]; rw [show l.getD (j - 1) Kg.z = l[j - 1] by rw [List.getD_eq_getElem?_getD, List.getElem?_eq_getElem (by omega)]; rfl]; rw [dnot (p := l[j].ID ≤ l[j - 1].ID) (q := l[j - 1].ID < l[j].ID) (by omega)]; cases decide (l[j - 1].ID < l[j].ID) <;> rfl
 cases arcF 0 l with
 | false => rfl
 | true =>
 simp only [if_true, ob_some, Sum.elim_inl, Bool.true_and]; rw [iter_allL heads fH (.inl ()) (.inr ()) ?b1 ?b2 (by omega)]
 case b1 => simp only [ltn, ifB_f]
 case b2 =>
  intro j h; simp only [ltl h, ifB_t, ixI_get h, ob_some, w64_1 h (by omega)]; rw [fH_r, ob_some]; cases fH heads[j] <;> rfl
 cases heads.all fH with
 | false => rfl
 | true =>
 simp only [if_true, ob_some, Sum.elim_inl]; rw [off_r hl.n _ hF, off_r hl.n _ hF, ob_some, ob_some]; unfold entB; cases hs : offH l src with
 | false =>
  rcases offI_cases l src with ⟨e, _⟩ | ⟨j, _, _, e⟩
  ·rw [e]; rfl
  ·rw [hs] at e; cases e
 | true =>
 obtain ⟨a, ea, ea'⟩ := offI_some hs; cases hd : offH l dst with
 | false =>
  rcases offI_cases l dst with ⟨e, _⟩ | ⟨j, _, _, e⟩
  ·rw [e, ea, Bool.false_and, Bool.and_false]; rw [decide_eq_false (p := fdI (some a) < 0) (by show ¬((a : Int) < 0); omega)]; rfl
  ·rw [hd] at e; cases e
 | true =>
 obtain ⟨b, eb, eb'⟩ := offI_some hd; rw [ea, eb, decide_eq_false (p := fdI (some a) < 0) (by show ¬((a : Int) < 0); omega), decide_eq_false (p := fdI (some b) < 0) (by show ¬((b : Int) < 0); omega), show ixI l (fdI (some a)) = some (offK l src) by rw [show fdI (some a) = (a : Int) from rfl, ixI_nat, ea'], show ixI l (fdI (some b)) = some (offK l dst) by rw [show fdI (some b) = (b : Int) from rfl, ixI_nat, eb']]; simp only [ifB_f, ob_some, Bool.true_and]; rw [dnot (p := i < 0) (q := 0 ≤ i) (by omega), dnot (p := k < 0) (q := 0 ≤ k) (by omega), dnot (p := i ≥ (((offK l src).Entries.length : Nat) : Int)) (q := i < (((offK l src).Entries.length : Nat) : Int)) (by omega), dnot (p := k ≥ (((offK l dst).Entries.length : Nat) : Int)) (q := k < (((offK l dst).Entries.length : Nat) : Int)) (by omega)]; cases decide (0 ≤ i) with
 | false => rfl
 | true =>
 cases decide (i < (((offK l src).Entries.length : Nat) : Int)) with
 | false => rfl
 | true =>
 cases decide (0 ≤ k) with
 | false => rfl
 | true =>
 cases decide (k < (((offK l dst).Entries.length : Nat) : Int)) with
 | false => rfl
 | true =>
 simp only [ifB_f, ob_some, Bool.true_and, Bool.not_true]; rw [iter_allL heads (whB l) (.inl ()) (.inr ()) ?c1 ?c2 (by omega)]
 case c1 => simp only [ltn, ifB_f]
 case c2 =>
  intro j h; simp only [ltl h, ifB_t, ixI_get h, ob_some, w64_1 h (by omega)]; rw [off_r hl.n _ hF, ob_some]; cases ho : offH l heads[j].Office with
  | false =>
   rcases offI_cases l heads[j].Office with ⟨e, _⟩ | ⟨q, _, _, e⟩
   ·rw [e, wh_off ho]; rfl
   ·rw [ho] at e; cases e
  | true =>
   obtain ⟨x, ex, ex'⟩ := offI_some ho; rw [ex, decide_eq_false (p := fdI (some x) < 0) (by show ¬((x : Int) < 0); omega), ifB_f, show ixI l (fdI (some x)) = some (offK l heads[j].Office) by rw [show fdI (some x) = (x : Int) from rfl, ixI_nat, ex'], ob_some, prove_r (hl.rng _) (hl.len _) hF, ob_some, un2_p, ob_some]
   show ifB (whB l heads[j]) _ _ = _
   cases whB l heads[j] <;> rfl
 ·cases heads.all (whB l) <;> rfl
theorem errS_find (l : List Kg) (heads : List Kc) (src i dst k : Int) : findS l heads src i dst k = if errS l heads src i dst k == 0 then (match srchS l heads src i dst k with | some c => (prfS l c src i dst k, true, 0) | none => (zP, false, 0)) else (zP, false, errS l heads src i dst k) := by
 unfold findS errS; cases h : ((arcS l heads).2 == 0) with
 | false =>
  rw [if_neg Bool.false_ne_true, if_neg Bool.false_ne_true, if_neg (by rw [h]; exact Bool.false_ne_true)]
 | true =>
 cases (entB l src i && entB l dst k) with
 | false => rfl
 | true => cases heads.all (whB l) <;> rfl
theorem errS_ok {l : List Kg} {heads : List Kc} {src i dst k : Int} (h : (errS l heads src i dst k == 0) = true) : l.length ≤ 4 ∧ heads.length ≤ 12 ∧ entB l src i = true ∧ entB l dst k = true ∧ ∀ h ∈ heads, HdOk l h := by
 unfold errS at h
 split at h
 ·rename_i h0
  obtain ⟨_, h2, h3, h4, h5⟩ := arcS_ok h0
  split at h
  ·rename_i h6
   rw [Bool.and_eq_true] at h6
   split at h
   ·rename_i h7
    exact ⟨h2, h3, h6.1, h6.2, fun g hg => hdOk_of (List.all_eq_true.1 h7 g hg)⟩
   ·cases h
  ·cases h
 ·rename_i h0
  exact absurd h h0
theorem find_r {l : List Kg} {heads : List Kc} {src i dst k : Int} (hl : FewO l) (hg : ∀ h ∈ heads, h.rng) {F : Nat} (hF : 100 ≤ F) :
  Gbm F l heads src i dst k = some (findS l heads src i dst k) := by
 unfold Gbm; rw [err_r hl (by omega), ob_some, errS_find]; cases h0 : (errS l heads src i dst k == 0) with
 | false => rfl
 | true =>
 obtain ⟨h4, h12, hs, hd, hr⟩ := errS_ok h0; rw [ifB_t, chain_r hl h12 hr hg hF, ob_some, if_pos rfl]; have hsame := chain_same (src := src) (i := i) (dst := dst) (k := k) h4 hr; cases hc : chI l heads src i dst k with
 | none =>
  rw [hc] at hsame; cases hs' : srchS l heads src i dst k with
  | none => rfl
  | some c => rw [hs'] at hsame; cases hsame
 | some L =>
 rw [hc] at hsame; cases hs' : srchS l heads src i dst k with
 | none => rw [hs'] at hsame; cases hsame
 | some c =>
 rw [hs'] at hsame; have hsame : hsI heads L = c.heads := Option.some.inj hsame; obtain ⟨lk, _, hc4⟩ := srch_lk hs'; have hpos := lk.pos; have hLl : L.length = c.heads.length := by rw [← hsame, hsI_len]
 have hLt := chI_lt hc; have hil : (intsN L).length = L.length := by unfold intsN; rw [List.length_map]
 have hin : ∀ (q : Nat) (hq : q < (intsN L).length), (intsN L)[q] = ((L[q]'(by omega) : Nat) : Int) := fun q hq => by simp [intsN]
 have hat : ∀ (q : Nat) (hq : q < L.length) (hq' : q < c.heads.length), heads[L[q]]'(hLt _ (List.getElem_mem hq)) = c.heads[q] := fun q hq hq' => by
  have h1 : c.heads[q]? = some (heads.getD L[q] zHd) := by
   rw [← hsame]; unfold hsI; rw [List.getElem?_map, List.getElem?_eq_getElem hq]; rfl
  rw [List.getElem?_eq_getElem hq'] at h1; rw [Option.some.inj h1, getD_at]
 obtain ⟨last, hl1, _, hl2, hl3⟩ := last_ix (heads := heads) (cn := L) 0 (by omega) (by omega) hLt; have hlh : lastH ⟨hsI heads L, 0⟩ = lastH c := by rw [hsame]; rfl
 have hz : ∀ h ∈ c.heads, h.rng := fun h hh => hg h (lk.mem h hh)
 unfold entB at hs hd; rw [Bool.and_eq_true] at hs hd; obtain ⟨a, ea, ea'⟩ := offI_some hs.1; obtain ⟨b, eb, eb'⟩ := offI_some hd.1; have hoff : ∀ h ∈ c.heads, ∃ x : Nat, Gb F l h.Office = some (x : Int) ∧ ixI l (x : Int) = some (offK l h.Office) := fun h hh => by
  obtain ⟨x, ex, ex'⟩ := offI_some (hr h (lk.mem h hh)).o; exact ⟨x, by rw [off_r hl.n _ (by omega), ex]; rfl, by rw [ixI_nat, ex']⟩
 rw [chO, un2_p, ifB_t, off_r hl.n _ (by omega), ea, ob_some, show ixI l (fdI (some a)) = some (offK l src) by rw [show fdI (some a) = (a : Int) from rfl, ixI_nat, ea'], ob_some]; rw [show ixI (intsN L) 0 = some ((L[0]'(by omega) : Nat) : Int) by rw [show (0 : Int) = ((0 : Nat) : Int) from rfl, ixI_get (by omega), hin], ob_some, ixI_get (hLt _ (List.getElem_mem _)), ob_some, hat 0 (by omega) hpos, prove_r (hl.rng _) (hl.len _) (by omega), ob_some, un2_p]; rw [off_r hl.n _ (by omega), eb, ob_some, show ixI l (fdI (some b)) = some (offK l dst) by rw [show fdI (some b) = (b : Int) from rfl, ixI_nat, eb'], ob_some, hl2, ob_some, hl3, ob_some, hlh, prove_r (hl.rng _) (hl.len _) (by omega), ob_some, un2_p]; have hzl : (c.heads.zip (c.heads.drop 1)).length = c.heads.length - 1 := by
  rw [List.length_zip, List.length_drop]; omega
 rw [iter_fold (fun (b : List KHop) j => ((b, j) : List KHop × Int)) (c.heads.zip (c.heads.drop 1)) (fun b p => b ++ [hopW l p]) id (fun j b => b.length ≤ j) (fun b _ => ?_) (fun b j h hb => ⟨?_, ?_⟩) (by omega) [] (by simp), fold_snoc]
 ·have e0 : c.heads[0] = c.heads.getD 0 zHd := by rw [List.getD_eq_getElem?_getD, List.getElem?_eq_getElem hpos]; rfl
  rw [e0]; rfl
 ·rw [hzl]; simp only [un2]; rw [w64_id (by omega) (by omega), decide_eq_false (by omega), ifB_f]; rfl
 ·rw [hzl] at h; have hj0 : j < L.length := by omega
  have hj1 : j + 1 < L.length := by omega
  simp only [un2]; rw [w64_id (n := (j : Int) + 1) (by omega) (by omega), decide_eq_true (p := (j : Int) + 1 < (((intsN L).length : Nat) : Int)) (by omega), ifB_t]; rw [show ((j : Int) + 1) = ((j + 1 : Nat) : Int) by omega]; rw [ixI_get (k := j) (by omega), ob_some, hin, ixI_get (hLt _ (List.getElem_mem hj0)), ob_some, ixI_get (k := j + 1) (by omega), ob_some, hin, ixI_get (hLt _ (List.getElem_mem hj1)), ob_some, hat j hj0 (by omega), hat (j + 1) hj1 (by omega)]; have m0 : c.heads[j]'(by omega) ∈ c.heads := List.getElem_mem _; have m1 : c.heads[j + 1]'(by omega) ∈ c.heads := List.getElem_mem _; obtain ⟨x, ex, ex'⟩ := hoff _ m0; obtain ⟨y, ey, ey'⟩ := hoff _ m1; rw [ex, ob_some, ex', ob_some, ey, ob_some, ey', ob_some, wit_r (hl.rng _) (hl.rng _) (hl.len _) (hl.len _) (hz _ m0) (hz _ m0) (hz _ m1) (by omega), ob_some, un2_p, ob_some]; simp only [un16]; rw [apG_ok (by simp only [List.length_cons, List.length_nil]; omega), ob_some]; rw [show (c.heads.zip (c.heads.drop 1))[j]'(by omega) = (c.heads[j]'(by omega), (c.heads.drop 1)[j]'(by rw [List.length_drop]; omega)) from List.getElem_zip ..]; rw [show (c.heads.drop 1)[j]'(by rw [List.length_drop]; omega) = c.heads[j + 1]'(by omega) by rw [List.getElem_drop]; congr 1; omega]; rfl
 ·simp only [List.length_append, List.length_cons, List.length_nil]; omega
theorem un3_p {a b c d : Type} (f : a → b → c → d) (p : a × b × c) : un3 f p = f p.1 p.2.1 p.2.2 := rfl
theorem sum_rng (l : List Int) : inKd .u64 (sumB l) := inKd_wu (sumB_rng l).1 (sumB_rng l).2
theorem digF_rng (h : Kc) : inKd .u64 (digF h) := sum_rng _
theorem zR_ok : ROk zR := ⟨⟨inKd_w (by decide) (by decide), inKd_w (by decide) (by decide), inKd_wu (by decide) (by decide), ⟨inKd_w (by decide) (by decide), inKd_w (by decide) (by decide)⟩⟩, ⟨inKd_wu (by decide) (by decide), ⟨inKd_w (by decide) (by decide), inKd_w (by decide) (by decide)⟩⟩⟩
theorem prov_rok {o : Kg} (ho : o.rng) {h : Kc} (hh : h.rng) (i : Int) : ROk (provS o h i).1 := by
 unfold provS
 split
 ·rename_i h1
  split
  ·simp only [Bool.and_eq_true, decide_eq_true_eq] at h1; exact ⟨hh, eAt_rng ho (by omega)⟩
  ·exact zR_ok
 ·exact zR_ok
theorem fndS_lt {l : List Kb} {n : Nat} {d : Int} {i : Nat} (h : fndS l n d = some i) : i < n ∧ (eAt l i).Doc = d := by
 have := fdN_some h; exact ⟨by omega, eq_of_beq this.2.1⟩
theorem wit_rok {a b : Kg} (hb : b.rng) {f o h : Kc} (ho : o.rng) (hh : h.rng) : (witS a f o b h).1.Of.rng ∧ ROk (witS a f o b h).1.By := by
 have hz : zH.Of.rng ∧ ROk zH.By := ⟨zR_ok.h, zR_ok⟩; unfold witS
 split
 ·rename_i hc
  split
  ·rename_i h1
   split
   ·exact hz
   ·rename_i i e
    have hl := fndS_lt e; simp only [Bool.and_eq_true] at h1; have := (hasS_spec h1.2.2).2.1; exact ⟨ho, hh, eAt_rng hb (by omega)⟩
  ·exact hz
 ·exact hz
theorem prfS_ok {l : List Kg} {heads : List Kc} {src i dst k : Int} {c : Kj} (hl : FewO l) (hg : ∀ h ∈ heads, h.rng) (lk : Lk l heads src i c) : POk (prfS l c src i dst k) := by
 have hpos := lk.pos; have hz : ∀ h ∈ c.heads, h.rng := fun h hh => hg h (lk.mem h hh)
 refine ⟨prov_rok (hl.rng _) (hz _ ?_) _, prov_rok (hl.rng _) (hz _ (lastH_mem hpos)) _, fun x hx => ?_⟩
 ·rw [List.getD_eq_getElem?_getD, List.getElem?_eq_getElem hpos]; exact List.getElem_mem hpos
 ·obtain ⟨q, hq, rfl⟩ := List.mem_map.1 hx; obtain ⟨q1, q2⟩ := q; have h1 := (List.of_mem_zip hq).1; have h2 := List.mem_of_mem_drop (List.of_mem_zip hq).2; exact wit_rok (hl.rng _) (hz _ h1) (hz _ h2)
theorem find_ok {l : List Kg} {heads : List Kc} {src i dst k : Int} (hl : FewO l) (hg : ∀ h ∈ heads, h.rng) : POk (findS l heads src i dst k).1 ∧ (findS l heads src i dst k).1.Hops.length ≤ 3 := by
 have hz : POk zP ∧ zP.Hops.length ≤ 3 := ⟨⟨zR_ok, zR_ok, fun x hx => absurd hx List.not_mem_nil⟩, Nat.zero_le _⟩; unfold findS
 split
 ·split
  ·split
   ·cases hs : srchS l heads src i dst k with
    | none => exact hz
    | some c =>
     obtain ⟨lk, _, h4⟩ := srch_lk hs; refine ⟨prfS_ok hl hg lk, ?_⟩
     show (hopsL l c.heads).length ≤ 3
     unfold hopsL; rw [lm_, List.length_zip, List.length_drop]; omega
   ·exact hz
  ·exact hz
 ·exact hz
theorem headF_one {o : Kg} (hr : o.rng) (hl : o.Entries.length ≤ 50) {n : Nat} {k m : Int} (hv : vO o = true) (h1 : 1 ≤ n) (h2 : n ≤ o.Entries.length) (h : (isK k && isK m) = true) {F : Nat} (hF : 64 ≤ F) : Gl F o n k m = some (headF o n k m, 0) := by
 rw [sign_p hr hl hF, sign_ok hv h1 h2 h]
def oneO : Kg := ⟨1, [⟨77, ⟨0, 0⟩⟩]⟩
def twoO (d : Int) : Kg := ⟨2, [⟨d, ⟨0, 0⟩⟩, ⟨88, ⟨0, 0⟩⟩]⟩
theorem i_rng : Kf.rng ⟨0, 0⟩ := ⟨inKd_w (by decide) (by decide), inKd_w (by decide) (by decide)⟩
theorem e_rng {d : Int} (h : inKd .u64 d) : Kb.rng ⟨d, ⟨0, 0⟩⟩ := ⟨h, i_rng⟩
theorem one_rng : oneO.rng := ⟨inKd_w (by decide) (by decide), fun y hy => by
 rw [show oneO.Entries = [⟨77, ⟨0, 0⟩⟩] from rfl, List.mem_singleton] at hy; subst hy; exact e_rng (inKd_wu (by decide) (by decide))⟩
theorem two_rng {d : Int} (h : inKd .u64 d) : (twoO d).rng := ⟨show inKd .i64 2 from inKd_w (by decide) (by decide), fun y hy => by
 rw [show (twoO d).Entries = [⟨d, ⟨0, 0⟩⟩, ⟨88, ⟨0, 0⟩⟩] from rfl, List.mem_cons, List.mem_singleton] at hy; rcases hy with rfl | rfl
 ·exact e_rng h
 ·exact e_rng (inKd_wu (by decide) (by decide))⟩
theorem two_any : ∃ (L : List Kg) (H : List Kc) (P : List Int), (∀ F, 64 ≤ F → Ga7 F = some (L, H, P)) ∧ FewO L ∧ (∀ h ∈ H, h.rng) ∧ P.length ≤ 40 := by
 have hA : (headF oneO 1 5 6).rng := headF_rng one_rng (by decide) (by decide); have hB : (headF (twoO (digF (headF oneO 1 5 6))) 2 7 8).rng := headF_rng (two_rng (digF_rng _)) (by decide) (by decide); refine ⟨[oneO, twoO (digF (headF oneO 1 5 6))], [headF oneO 1 5 6, headF (twoO (digF (headF oneO 1 5 6))) 2 7 8], [pubF 5, pubF 7], fun F hF => ?_, ⟨by decide, fun o ho => ?_, fun o ho => ?_⟩, fun h hh => ?_, by decide⟩
 ·unfold Ga7; have h1 := headF_one (o := oneO) (n := 1) (k := 5) (m := 6) one_rng (by decide) (by decide) (by decide) (by decide) (by decide) hF; have h2 := headF_one (o := twoO (digF (headF oneO 1 5 6))) (n := 2) (k := 7) (m := 8) (two_rng (digF_rng _)) (by show 2 ≤ 50; decide) (by show vO ⟨2, [⟨_, ⟨0, 0⟩⟩, ⟨88, ⟨0, 0⟩⟩]⟩ = true; rfl) (by decide) (by show 2 ≤ 2; decide) (by decide) hF; unfold oneO at h1; rw [show Gl F (⟨1, ([(⟨77, ⟨0, 0⟩⟩ : Kb)] : List Kb)⟩ : Kg) 1 5 6 = some (headF oneO 1 5 6, 0) from h1, ob_some, un2_p, dig_p hA hF, ob_some]; rw [show Gl F (⟨2, ([(⟨digF (headF oneO 1 5 6), ⟨0, 0⟩⟩ : Kb), (⟨88, ⟨0, 0⟩⟩ : Kb)] : List Kb)⟩ : Kg) 2 7 8 = some (headF (twoO (digF (headF oneO 1 5 6))) 2 7 8, 0) from h2, ob_some, un2_p]; rw [pubF_eq (k := 5) (by decide) hF, pubF_eq (k := 7) (by decide) hF]; simp only [ob_some]; rfl
 ·rw [List.mem_cons, List.mem_singleton] at ho; rcases ho with rfl | rfl
  ·decide
  ·show 2 ≤ 50; decide
 ·rw [List.mem_cons, List.mem_singleton] at ho; rcases ho with rfl | rfl
  ·exact one_rng
  ·exact two_rng (digF_rng _)
 ·rw [List.mem_cons, List.mem_singleton] at hh; rcases hh with rfl | rfl
  ·exact hA
  ·exact hB
theorem head27_c : G2 30000 = some true := by kernel_rfl
theorem head27 {F : Nat} (hF : 21000 ≤ F) : G2 F = some true := by
 rw [← head27_c]; obtain ⟨L, H, P, h2, hL, hH, hP⟩ := two_any; have hf : ∀ F, 21000 ≤ F → ∀ src i dst k, Gg F L H src i dst k = some (findS L H src i dst k) := fun F hF src i dst k => find_p hL hH hF
 have hc : ∀ F, 21000 ≤ F → ∀ src i dst k, Gs F P (findS L H src i dst k).1 = some (ordS P (findS L H src i dst k).1) := fun F hF src i dst k => ord_p hP (find_ok hL hH).1 (by have := (find_ok (src := src) (i := i) (dst := dst) (k := k) hL hH).2; omega) (by omega)
 have ho : ∀ F, 21000 ≤ F → ∀ src i dst k, G0 F (findS L H src i dst k).1 = some (offsF (findS L H src i dst k).1) := fun F hF src i dst k => offs_p (by have := (find_ok (src := src) (i := i) (dst := dst) (k := k) hL hH).2; omega) (by omega)
 have hs : ∀ F, 21000 ≤ F → ∀ src i dst k, G9 F (offsF (findS L H src i dst k).1) [1, 2] = some (decide (offsF (findS L H src i dst k).1 = [1, 2])) := fun F hF src i dst k => sameI_r (by have := (find_ok (src := src) (i := i) (dst := dst) (k := k) hL hH).2; unfold offsF; rw [List.length_cons, List.length_map]; omega) (by omega)
 have key : ∃ x, ∀ F, 21000 ≤ F → G2 F = x := ⟨_, fun F hF => by
  unfold G2; rw [h2 F (by omega), ob_some, un3_p, hf F hF, ob_some, un3_p, hc F hF, ob_some, un2_p, hf F hF, ob_some, un3_p, hf F hF, ob_some, un3_p, hc F hF, ob_some, un2_p, hf F hF, ob_some, un3_p, ho F hF, ob_some, hs F hF, ob_some]⟩
 obtain ⟨x, hx⟩ := key; rw [hx F hF, hx 30000 (by decide)]
structure PLen (p : Km) : Prop where
 f : p.First.Path.length ≤ 40
 l : p.Last.Path.length ≤ 40
 g : p.Grow.length ≤ 40
 n : p.Hops.length ≤ 40
 h : ∀ x ∈ p.Hops, x.Grow.length ≤ 40 ∧ x.By.Path.length ≤ 40
theorem sameD_r {l : List Int} (hl : l.length ≤ 60) {F : Nat} (hF : 64 ≤ F) : Gbt F l l = some true := by
 unfold Gbt; rw [show (((l.length : Int)) == (l.length : Int)) = true from beq_iff_eq.2 rfl, ifB_t, iter_eqL l l rfl (.inl ()) (.inr ()) ?_ ?_ (by omega)]
 ·rw [decide_eq_true rfl]; rfl
 ·simp only [ltn, ifB_f]
 ·intro k h1 h2; simp only [ltl h1, ifB_t, ixI_get h1, ob_some, w64_1 h1 (by omega)]; rw [show (l[k] == l[k]) = true from beq_iff_eq.2 rfl, ifB_t]
  simp
theorem same27 {p : Km} (h : PLen p) {F : Nat} (hF : 64 ≤ F) : Gbp F p p = some true := by
 have hn := h.n; unfold Gbp; rw [sameR_refl h.f hF, sameR_refl h.l hF, sameD_r (by have := h.g; omega) hF]; simp only [ob_some, ifB_t]; rw [show (((p.Hops.length : Int)) == (p.Hops.length : Int)) = true from beq_iff_eq.2 rfl]; rw [iter_allL p.Hops (fun _ => true) (.inl ()) (.inr ()) ?_ ?_ (by omega), show p.Hops.all (fun _ => true) = true from List.all_eq_true.2 fun _ _ => rfl]
 ·rfl
 ·simp only [ltn, ifB_f]
 ·intro k hk; have hm := h.h _ (List.getElem_mem hk); simp only [ltl hk, ifB_t, ixI_get hk, ob_some, w64_1 hk (by omega), same26 hm.1 hm.2 hF, if_true]
theorem zP_len : PLen zP := ⟨Nat.zero_le _, Nat.zero_le _, Nat.zero_le _, Nat.zero_le _, fun x hx => absurd hx List.not_mem_nil⟩
theorem find_len {l : List Kg} {heads : List Kc} {src i dst k : Int} (hl : FewO l) (hg : ∀ h ∈ heads, h.rng) : PLen (findS l heads src i dst k).1 := by
 have h3 := (find_ok (src := src) (i := i) (dst := dst) (k := k) hl hg).2
 revert h3
 unfold findS
 split
 ·split
  ·split
   ·cases hs : srchS l heads src i dst k with
    | none => exact fun _ => zP_len
    | some c =>
     intro h3; have e1 : (provS (offK l src) (c.heads.getD 0 zHd) i).1.Path.length ≤ 12 := prov_len (hl.len _); have e2 : (provS (offK l dst) (lastH c) k).1.Path.length ≤ 12 := prov_len (hl.len _); refine ⟨Nat.le_trans e1 (by decide), Nat.le_trans e2 (by decide), Nat.zero_le _, Nat.le_trans h3 (by decide), fun x hx => ?_⟩; obtain ⟨q, _, rfl⟩ := List.mem_map.1 hx; exact witS_len (hl.len _) (hl.len _)
   ·exact fun _ => zP_len
  ·exact fun _ => zP_len
 ·exact fun _ => zP_len
theorem law27_match {pubs : List Int} {p : Km} {l : List Kg} {heads : List Kc} {src i dst k : Int} (hp : p.rng) (hl : ∀ o ∈ l, o.rng) (hg : ∀ h ∈ heads, h.rng) (hn : l.length ≤ 9223372036854775807) :
  Gby (30000 + l.length) pubs p l heads src i dst k = some true := by
 unfold Gby; rw [head27 (by omega), ob_some, few_r (by omega) hn, ob_some]; cases hfw : (l.all (fun o => decide (o.Entries.length ≤ 40)) && (decide (l.length ≤ 6) && decide (heads.length ≤ 20))) with
 | false => rfl
 | true =>
 simp only [Bool.and_eq_true, decide_eq_true_eq, List.all_eq_true] at hfw; have hL : FewO l := ⟨hfw.2.1, fun o ho => by have := hfw.1 o ho; omega, hl⟩; rw [ifB_t, dnot (p := (p.Hops.length : Int) > 20) (q := p.Hops.length ≤ 20) (by omega), dnot (p := (pubs.length : Int) > 40) (q := pubs.length ≤ 40) (by omega)]; cases q1 : decide (p.Hops.length ≤ 20) with
 | false => rfl
 | true =>
 cases q2 : decide (pubs.length ≤ 40) with
 | false => rfl
 | true =>
 have q1 := of_decide_eq_true q1; have q2 := of_decide_eq_true q2; simp only [Bool.not_true, ifB_f, ob_some, un6]; rw [ord_p q2 (.of hp) (by omega) (by omega), ob_some, un2_p, ord_r q2 hp (by omega) (by omega), ob_some, un2_p]; rw [show ((ordS pubs p).1 == (ordS pubs p).1) = true from beq_self_eq_true _, show ((ordS pubs p).2 == (ordS pubs p).2) = true from beq_self_eq_true _]; simp only [ifB_t, ob_some]; rw [find_p hL hg (by omega), ob_some, un3_p, find_r hL hg (by omega), ob_some, un3_p, same27 (find_len hL hg) (by omega), ob_some, ifB_t]; rw [show ((findS l heads src i dst k).2.1 == (findS l heads src i dst k).2.1) = true from beq_self_eq_true _, show ((findS l heads src i dst k).2.2 == (findS l heads src i dst k).2.2) = true from beq_self_eq_true _, ifB_t, ifB_t]; rw [offs_p (by omega) (by omega), ob_some, offs_r (by omega) (by omega), ob_some, sameI_r (by unfold offsF; rw [List.length_cons, List.length_map]; omega) (by omega), decide_eq_true rfl]; rfl
end Go.Proofs.YtggaodokkcoagaaGreatDoor
namespace Go.Proofs.YtggaodokkcoagaaGreatDoor
open Go.RowKit
theorem tb_of {W : World} {L : List (String × DataW Unit)} (h : laidMet Tryz.prog L W) (hm : ("internal/strconv.uint64pow10", Rows.laid_internal_strconv_uint64pow10) ∈ L) : Tb W := by
 refine Lib.tabBelow_of_tabIs ?_; obtain ⟨g, t, cs, fuel, p, hg, ht, hvar, hd⟩ := Lib.laidMet.reads h hm; have h1 : (Tryz.prog.globalNamed "internal/strconv.uint64pow10").bind (fun g => (Tryz.prog.globals[g]?).map (·.type)) = some 209 := by kernel_rfl
 rw [hg] at h1; obtain rfl : t = 209 := Option.some.inj (ht.symm.trans h1); unfold Lib.TabIs; rw [hvar, ← Lib.cells_of_tab (k := .u64) (zs := Lib.pow10Tab) Tryz.underlying209 Tryz.underlying23 (by kernel_rfl) (by kernel_rfl) hd]
end Go.Proofs.YtggaodokkcoagaaGreatDoor
namespace Go.Proofs.YtggaodokkcoagaaGreatDoor
theorem olen {P : Program} {w : World} {r : Reach} {base : Nat} {t e : TypeId} {A : Option Addr} {n c : Nat} (ht : P.underlying t = some (.slice e)) (h : Value.okWide P w r base t (.slice A n c)) : n ≤ 9223372036854775807 := by
 simp only [Value.okWide, ht, Cell.okWide, Cell.ok] at h; cases A with
 | none =>
  cases n with
  | zero => exact Nat.zero_le _
  | succ n => simp at h
 | some a =>
  have h1 := h.1; have h2 := h.2.1; rw [show IntKind.i64.max = 9223372036854775807 by decide] at h2; omega
end Go.Proofs.YtggaodokkcoagaaGreatDoor
