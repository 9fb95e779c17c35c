/-
  Texts joined: Sk37, Sl37.
-/
import Derived.Test.YtlfkgbideknkhaaJU44
set_option linter.unusedSimpArgs false
set_option linter.unusedVariables false
namespace Go.Proofs.Ytlfkgbideknkhaa
open Go.RowKit
theorem copied_p {t : KTx} (h : FewT t) (F : Nat) : G_commit_copied F t = some t := by
 have hr := h.r; have hw := h.w; unfold G_commit_copied; rw [apG_ok (by simp only [List.length_nil]; omega), ob_some, apG_ok (by simp only [List.length_nil]; omega)]; rfl
theorem foldl_snoc {α : Type} : ∀ (l b : List α), l.foldl (fun b x => b ++ [x]) b = b ++ l
 | [], b => by simp
 | x :: l, b => by rw [List.foldl_cons, foldl_snoc, List.append_assoc]; rfl
theorem copies_p {l : List KTx} (h : ∀ t ∈ l, FewT t) (hl : l.length ≤ 5000) {F : Nat} (hF : 5001 ≤ F) : G_commit_copies F l = some l := by
 unfold G_commit_copies; rw [iter_fold (fun b i => (b, i)) l (fun b x => b ++ [x]) id (fun k b => b.length = k) ?_ ?_ (by omega) [] rfl]
 ·simp only [ob_some, id, foldl_snoc]; rfl
 ·intro b _; simp only [un2, ltn, ifB_f, id]
 ·intro b k hk hb; simp only [un2, ltl hk, ifB_t, ixI_get hk, ob_some, w64_1 hk (by omega), copied_p (h _ (List.getElem_mem hk))]; rw [apG_ok (by simp only [List.length_cons, List.length_nil]; omega), ob_some, List.length_append]; exact ⟨rfl, by simp only [List.length_cons, List.length_nil]; omega⟩
theorem past_all {x : KLeader} {a : Int} (h : ∀ t ∈ x.Open, t.Ts < a) (hl : x.Open.length ≤ 5000) {F : Nat} (hF : 5001 ≤ F) : G_commit_past F x a = some ((x.Open.length : Nat) : Int) := by
  have key : ∀ (m i F : Nat), x.Open.length ≤ i + m → i ≤ x.Open.length → m < F → iter (σ := Int × Int) (ρ := Int) (un2 fun (v_25 : Int) (v_26 : Int) => 
          (ifB (decide (v_25 < v_26))
            (Option.bind (Option.bind (ixI x.Open (IntKind.i64.wrap (Int.fdiv (IntKind.u64.wrap (IntKind.i64.wrap (v_25 + v_26))) (2 ^ 1)))) (fun v_29 =>
              some (decide (v_29.Ts ≥ a))) : Option (Bool)) (fun (v_32 : Bool) => 
              ifB (v_32)
                (some (.inl (v_25, IntKind.i64.wrap (Int.fdiv (IntKind.u64.wrap (IntKind.i64.wrap (v_25 + v_26))) (2 ^ 1)))))
                (some (.inl (IntKind.i64.wrap ((IntKind.i64.wrap (Int.fdiv (IntKind.u64.wrap (IntKind.i64.wrap (v_25 + v_26))) (2 ^ 1))) + 1), v_26)))))
            (some (.inr v_25)) : Option ((Int × Int) ⊕ Int))) F ((i : Int), ((x.Open.length : Nat) : Int)) = some ((x.Open.length : Nat) : Int) := by
    intro m
    induction m with
    | zero =>
      intro i F h1 h2 hF
      obtain ⟨F', rfl⟩ : ∃ F', F = F' + 1 := ⟨F - 1, by omega⟩
      unfold iter
      simp only [un2]
      rw [decide_eq_false (by omega), ifB_f]
      simp only [Option.some.injEq]
      omega
    | succ m ih =>
      intro i F h1 h2 hF
      obtain ⟨F', rfl⟩ : ∃ F', F = F' + 1 := ⟨F - 1, by omega⟩
      unfold iter
      simp only [un2]
      by_cases hi : i < x.Open.length
      · have ew : IntKind.i64.wrap (Int.fdiv (IntKind.u64.wrap (IntKind.i64.wrap ((i : Int) + ((x.Open.length : Nat) : Int)))) (2 ^ 1)) = (((i + x.Open.length) / 2 : Nat) : Int) := by
          rw [Int.fdiv_eq_ediv_of_nonneg _ (by decide), IntKind.wrap_i64, IntKind.wrap_u64, IntKind.wrap_i64]
          omega
        have hm : (i + x.Open.length) / 2 < x.Open.length := by omega
        have ht := h _ (List.getElem_mem hm)
        rw [decide_eq_true (by omega), ifB_t, ew, ixI_get hm]
        simp only [ob_some]
        rw [decide_eq_false (by omega), ifB_f, show IntKind.i64.wrap ((((i + x.Open.length) / 2 : Nat) : Int) + 1) = (((i + x.Open.length) / 2 + 1 : Nat) : Int) from by rw [IntKind.wrap_i64]; omega]
        exact ih _ F' (by omega) (by omega) (by omega)
      · rw [decide_eq_false (by omega), ifB_f]
        simp only [Option.some.injEq]
        omega
  unfold G_commit_past
  have := key x.Open.length 0 F (by omega) (Nat.zero_le _) (by omega)
  rw [show ((0 : Nat) : Int) = 0 from rfl] at this
  rw [this]
  rfl
def ivB (i : KInterval) : Bool := decide (0 ≤ i.Lo) && decide (i.Lo ≤ i.Hi) && decide (i.Hi ≤ 3000000000000000)
theorem vers_p {t : KTx} (h : FewT t) {F : Nat} (hF : 64 ≤ F) : G_commit_work_versions F ⟨t⟩ = some ((vsT t).map Ver.k) := by
 have hw := h.w; unfold G_commit_work_versions
 dsimp only
 rw [iter_fold (fun b i => (i, b)) t.Writes (fun b x => b ++ [(⟨x.Key, t.Ts, x.Value, x.Gone⟩ : KVersion)]) id (fun k b => b.length = k) ?_ ?_ (by omega) [] rfl]
 ·simp only [ob_some, id]
  congr 1
  have key : ∀ (l : List KWrite) (b : List KVersion), l.foldl (fun b x => b ++ [(⟨x.Key, t.Ts, x.Value, x.Gone⟩ : KVersion)]) b = b ++ (l.map fun w => (⟨w.Key, t.Ts, w.Value, w.Gone⟩ : Ver)).map Ver.k := by
   intro l
   induction l with
   | nil => intro b; simp
   | cons x l ih => intro b; rw [List.foldl_cons, ih, List.append_assoc]; rfl
  rw [key]; rfl
 ·intro b _; simp only [un2, ltn, ifB_f, id]
 ·intro b k hk hb; simp only [un2, ltl hk, ifB_t, ixI_get hk, ob_some, w64_1 hk (by omega)]; rw [apG_ok (by simp only [List.length_cons, List.length_nil]; omega), ob_some, List.length_append]; exact ⟨rfl, by simp only [List.length_cons, List.length_nil]; omega⟩
theorem putV_p {vs m m' : List Ver} (hw : vs.length ≤ 20) (hm : m.length ≤ 100000) (h : putsS m vs = (m', 0)) {F0 F : Nat} (hF : 64 ≤ F) : iter (σ := Int × (List KVersion)) (ρ := (List KVersion) ⊕ Int) (un2 fun (v_144 : Int) (v_145 : (List KVersion)) => 
                    (ifB (decide (v_144 < (((vs.map Ver.k).length : Nat) : Int)))
                      (Option.bind (ixI (vs.map Ver.k) v_144) (fun v_150 =>
                      Option.bind (G_versions_Put F0 v_145 v_150) (un2 fun v_154 v_155 =>
                      ifB ((v_155 == 0))
                        (some (.inl (IntKind.i64.wrap (v_144 + 1), v_154)))
                        (some (.inr (.inr v_155))))))
                      (some (.inr (.inl v_145))) : Option ((Int × (List KVersion)) ⊕ ((List KVersion) ⊕ Int)))) F (0, m.map Ver.k) = some (.inl (m'.map Ver.k)) := by
  have hvl : (vs.map Ver.k).length = vs.length := List.length_map _
  have := iter_seq (f := un2 fun (v_144 : Int) (v_145 : (List KVersion)) => 
                    (ifB (decide (v_144 < (((vs.map Ver.k).length : Nat) : Int)))
                      (Option.bind (ixI (vs.map Ver.k) v_144) (fun v_150 =>
                      Option.bind (G_versions_Put F0 v_145 v_150) (un2 fun v_154 v_155 =>
                      ifB ((v_155 == 0))
                        (some (.inl (IntKind.i64.wrap (v_144 + 1), v_154)))
                        (some (.inr (.inr v_155))))))
                      (some (.inr (.inl v_145))) : Option ((Int × (List KVersion)) ⊕ ((List KVersion) ⊕ Int)))) (fun k => ((k : Int), ((putsS m (vs.take k)).1).map Ver.k)) vs.length (.inl (m'.map Ver.k)) ?_ ?_ (F := F) (by omega)
  · exact this
  · intro k hk
    obtain ⟨m1, m2, h1, h2, h3⟩ := puts_take h k hk
    have hl1 := puts_len h1
    rw [List.length_take] at hl1
    have hk2 : k < (vs.map Ver.k).length := by omega
    simp only [un2, ltl hk2, ifB_t, ixI_get hk2, ob_some]
    rw [h1, h3, List.getElem_map, put_k F0 (v := (vs[k]).k) (by omega) h2]
    simp only [ob_some, un2]
    rw [show ((0 : Int) == 0) = true from rfl, ifB_t, w64_nat (by omega)]
  · simp only [un2, hvl, ltn, ifB_f]
    rw [List.take_length, h]
theorem vsOf_nW (l : List KTx) : (vsOf l).length = nW l := by
 induction l with
 | nil => rfl
 | cons t l ih => rw [vsOf_cons, List.length_append, ih, nW_cons, show (vsT t).length = t.Writes.length from List.length_map _]
theorem valid_iv (F : Nat) (i : KInterval) : G_interval_Valid F i = some (ivB i) := iv_p F i
theorem show_p {x : KLeader} {b : KInterval} {m : List Ver} (hv : validL x = true) (hi : ivB b = true) (hf : ∀ t ∈ x.Open, FewT t) (hp : ∀ t ∈ x.Open, t.Ts < b.Lo) (hm : putsS (x.Store.map KVersion.v) (vsOf x.Open) = (m, 0)) {F : Nat} (hF : 300000 ≤ F) : G_commit_Show F x b = some (⟨x.Last, m.map Ver.k, []⟩, x.Open, 0) := by
  have hv2 := hv
  unfold validL at hv2
  simp only [Bool.and_eq_true, decide_eq_true_eq] at hv2
  obtain ⟨⟨⟨_, h2000⟩, h4000⟩, _⟩ := hv2
  unfold G_commit_Show
  rw [valid_p x (by omega) (by omega) hf (by omega), hv]
  simp only [ob_some]
  rw [ifB_t, valid_iv, hi, ob_some, Bool.not_true, ob_some, ifB_f, past_all hp (by omega) (by omega), ob_some, apG_ok (by simp only [List.length_nil]; omega), ob_some]
  have hs0 := slI_ok (l := x.Open) (p := 0) (q := x.Open.length) (Nat.zero_le _) (Nat.le_refl _)
  rw [show ((0 : Nat) : Int) = 0 from rfl, List.drop_zero, List.take_length] at hs0
  have hs1 := slI_ok (l := x.Open) (p := x.Open.length) (q := x.Open.length) (Nat.le_refl _) (Nat.le_refl _)
  rw [List.take_length, List.drop_length] at hs1
  rw [hs0]
  simp only [ob_some]
  have hpre : ∀ k, ∃ mk, putsS (x.Store.map KVersion.v) (vsOf (x.Open.take k)) = (mk, 0) := fun k => by
    have e : vsOf x.Open = vsOf (x.Open.take k) ++ vsOf (x.Open.drop k) := by rw [← vs_app, List.take_append_drop]
    rw [e] at hm
    obtain ⟨mk, h1, _⟩ := puts_app hm
    exact ⟨mk, h1⟩
  have hln : ∀ k, (vsOf (x.Open.take k)).length ≤ 4000 := fun k => by
    have h1 := vsOf_len_take x.Open k
    have h2 := vsOf_nW x.Open
    omega
  have := iter_seq (f := un2 fun (v_113 : Int) (v_114 : (List KVersion)) => 
            (ifB (decide (v_113 < ((x.Open.length : Nat) : Int)))
              (Option.bind (Option.bind (ixI x.Open v_113) (fun v_119 =>
                Option.bind (G_commit_work_versions F (⟨v_119⟩ : Kcommit_work)) (fun v_123 =>
                Option.bind (iter (σ := Int × (List KVersion)) (ρ := (List KVersion) ⊕ Int) (un2 fun (v_144 : Int) (v_145 : (List KVersion)) => 
                    (ifB (decide (v_144 < ((v_123.length : Nat) : Int)))
                      (Option.bind (ixI v_123 v_144) (fun v_150 =>
                      Option.bind (G_versions_Put F v_145 v_150) (un2 fun v_154 v_155 =>
                      ifB ((v_155 == 0))
                        (some (.inl (IntKind.i64.wrap (v_144 + 1), v_154)))
                        (some (.inr (.inr v_155))))))
                      (some (.inr (.inl v_145))) : Option ((Int × (List KVersion)) ⊕ ((List KVersion) ⊕ Int)))) F (0, v_114)) (Sum.elim (fun (v_157 : (List KVersion)) => 
                  some (.inl v_157)) (fun (v_160 : Int) => 
                  some (.inr v_160))))) : Option ((List KVersion) ⊕ Int)) (Sum.elim (fun (v_162 : (List KVersion)) => 
                some (.inl (IntKind.i64.wrap (v_113 + 1), v_162))) (fun (v_165 : Int) => 
                some (.inr (.inr v_165)))))
              (some (.inr (.inl v_114))) : Option ((Int × (List KVersion)) ⊕ ((List KVersion) ⊕ Int)))) (fun k => ((k : Int), ((putsS (x.Store.map KVersion.v) (vsOf (x.Open.take k))).1).map Ver.k)) x.Open.length (.inl (m.map Ver.k)) ?_ ?_ (F := F) (by omega)
  · rw [show ((0 : Nat) : Int) = 0 from rfl, show (putsS (x.Store.map KVersion.v) (vsOf (x.Open.take 0))).1 = x.Store.map KVersion.v from rfl, map_kv] at this
    rw [this]
    simp only [ob_some, Sum.elim_inl]
    rw [hs1]
    simp only [ob_some]
    rw [copies_p (fun t ht => absurd ht List.not_mem_nil) (by simp) (by omega), copies_p hf (by omega) (by omega)]
    rfl
  · intro k hk
    obtain ⟨m1, e1⟩ := hpre k
    obtain ⟨m2, e2⟩ := hpre (k + 1)
    have hq := hln k
    have hl1 := puts_len e1
    rw [List.length_map] at hl1
    have e3 := e2
    rw [vsOf_take x.Open k hk] at e3
    obtain ⟨m3, e4, e5⟩ := puts_app e3
    rw [e1] at e4
    cases e4
    have hft := hf _ (List.getElem_mem hk)
    have hwt := hft.w
    simp only [un2, ltl hk, ifB_t, ixI_get hk, ob_some]
    rw [vers_p hft (by omega), e1, e2]
    simp only [ob_some]
    rw [putV_p (by rw [show (vsT x.Open[k]).length = x.Open[k].Writes.length from List.length_map _]; omega) (by omega) e5 (by omega)]
    simp only [ob_some, Sum.elim_inl]
    rw [w64_nat (by omega)]
  · simp only [un2, ltn, ifB_f]
    rw [List.take_length, hm]
theorem iter_ex {σ ρ α β : Type} {f : σ → Option (σ ⊕ ρ)} (e : β → Int → σ) (l : List α) (g : β → α → β) (fin : β → ρ) (hn : ∀ b, f (e b (l.length : Int)) = some (.inr (fin b)))
  (hk : ∀ b k (h : k < l.length), f (e b (k : Int)) = some (.inl (e (g b l[k]) ((k : Int) + 1)))) {F : Nat} (hF : l.length < F) (b : β) : ∃ r, iter f F (e b 0) = some (fin r) :=
 ⟨_, iter_fold e l g fin (fun _ _ => True) (fun b _ => hn b) (fun b k h _ => ⟨hk b k h, trivial⟩) hF b trivial⟩
def stT (x : KLeader) (t : KTx) (b : KInterval) : KTx := ⟨t.ID, max (x.Last + 1) b.Hi, t.Reads, t.Writes⟩
structure StOk (x : KLeader) (t : KTx) (b : KInterval) : Prop where
 v : validL x = true
 i : ivB b = true
 f : txF t = true
 z : t.Ts = 0
 n : x.Open.length ≠ 2000
 s : x.Store.length + nW x.Open + t.Writes.length ≤ 4000
 m : max (x.Last + 1) b.Hi ≤ 3000000000000000
theorem stamp_p {x : KLeader} {t : KTx} {b : KInterval} (hs : x.Store.length ≤ 4000) (ho : x.Open.length ≤ 2000) (hf : ∀ t ∈ x.Open, FewT t) (ht : FewT t) {F : Nat} (hF : 300000 ≤ F) : ∃ r, G_commit_Stamp F x t b = some r ∧ (r.2.2 = 0 → StOk x t b ∧ r = (⟨max (x.Last + 1) b.Hi, x.Store, x.Open ++ [stT x t b]⟩, stT x t b, 0)) ∧ (StOk x t b → t.Reads = [] → r = (⟨max (x.Last + 1) b.Hi, x.Store, x.Open ++ [stT x t b]⟩, stT x t b, 0)) := by
  have hr := ht.r
  have hw := ht.w
  unfold G_commit_Stamp
  rw [valid_p x (by omega) (by omega) hf (by omega), valid_iv, formed_p t ht (by omega)]
  simp only [ob_some]
  have ec : (ifB (validL x) (ifB (ivB b) (ifB (txF t) (some (!(t.Ts == 0))) (some true)) (some true)) (some true) : Option Bool) = some (!(validL x && ivB b && txF t && (t.Ts == 0))) := by
    cases validL x <;> cases ivB b <;> cases txF t <;> rfl
  rw [ec, ob_some]
  cases hc : (validL x && ivB b && txF t && (t.Ts == 0)) with
  | false =>
    refine ⟨_, rfl, fun h => ?_, fun h _ => ?_⟩
    · exact absurd (show (1 : Int) = 0 from h) (by decide)
    · rw [h.v, h.i, h.f, h.z] at hc
      cases hc
  | true =>
    simp only [Bool.and_eq_true, beq_iff_eq] at hc
    obtain ⟨⟨⟨hv, hi⟩, hff⟩, hz⟩ := hc
    have hlast : 0 ≤ x.Last ∧ x.Last ≤ 3000000000000000 := by
      unfold validL at hv
      simp only [Bool.and_eq_true, decide_eq_true_eq] at hv
      omega
    rw [Bool.not_true, ifB_f]
    obtain ⟨k1, e1⟩ := iter_ex (f := un2 fun (v_34 : Int) (v_35 : (List (Int × Int))) => 
              (ifB (decide (v_34 < ((x.Store.length : Nat) : Int)))
                (Option.bind (ixI x.Store v_34) (fun v_38 =>
                Option.bind (some (mpS v_35 v_38.Key (max (mpG v_35 v_38.Key 0) v_38.Ts))) (fun v_42 =>
                some (.inl (IntKind.i64.wrap (v_34 + 1), v_42)))))
                (some (.inr v_35)) : Option ((Int × (List (Int × Int))) ⊕ (List (Int × Int))))) (fun m i => (i, m)) x.Store (fun m v => mpS m v.Key (max (mpG m v.Key 0) v.Ts)) id (fun m => by simp only [un2, ltn, ifB_f, id]) (fun m k hk => by simp only [un2, ltl hk, ifB_t, ixI_get hk, ob_some, w64_1 hk (by omega)]) (F := F) (by omega) []
    simp only [ob_some] at e1
    rw [e1]
    simp only [ob_some, id]
    obtain ⟨k2, e2⟩ := iter_ex (f := un2 fun (v_110 : (List (Int × Int))) (v_111 : Int) => 
                (ifB (decide (v_111 < ((x.Open.length : Nat) : Int)))
                  (Option.bind (Option.bind (ixI x.Open v_111) (fun v_114 =>
                    Option.bind (iter (σ := (List (Int × Int)) × Int) (ρ := (List (Int × Int))) (un2 fun (v_132 : (List (Int × Int))) (v_133 : Int) => 
                        (ifB (decide (v_133 < ((v_114.Writes.length : Nat) : Int)))
                          (Option.bind (ixI v_114.Writes v_133) (fun v_136 =>
                          Option.bind (some (mpS v_132 v_136.Key v_114.Ts)) (fun v_140 =>
                          some (.inl (v_140, IntKind.i64.wrap (v_133 + 1))))))
                          (some (.inr v_132)) : Option (((List (Int × Int)) × Int) ⊕ (List (Int × Int))))) F (v_110, 0)) (fun (v_141 : (List (Int × Int))) => 
                      some v_141)) : Option ((List (Int × Int)))) (fun (v_143 : (List (Int × Int))) => 
                    some (.inl (v_143, IntKind.i64.wrap (v_111 + 1)))))
                  (some (.inr v_110)) : Option (((List (Int × Int)) × Int) ⊕ (List (Int × Int))))) (fun m i => (m, i)) x.Open (fun m t => t.Writes.foldl (fun m w => mpS m w.Key t.Ts) m) id (fun m => by simp only [un2, ltn, ifB_f, id]) (fun m k hk => by
        have hwk := (hf _ (List.getElem_mem hk)).w
        simp only [un2, ltl hk, ifB_t, ixI_get hk, ob_some, w64_1 hk (by omega)]
        rw [iter_fold (fun m i => (m, i)) x.Open[k].Writes (fun m w => mpS m w.Key x.Open[k].Ts) id (fun _ _ => True) (fun m _ => by simp only [un2, ltn, ifB_f, id]) (fun m j hj _ => ⟨by simp only [un2, ltl hj, ifB_t, ixI_get hj, ob_some, w64_1 hj (by omega)], trivial⟩) (by omega) m trivial]
        rfl) (F := F) (by omega) k1
    simp only [ob_some] at e2
    rw [e2]
    simp only [ob_some, id]
    rw [iter_fdL t.Reads (fun s => !(mpG k2 s.Key 0 == s.Ts)) (.inl ()) (fun k => .inr (k : Int)) (by simp only [ltn, ifB_f]) (fun k hk => by
      simp only [ltl hk, ifB_t, ixI_get hk, ob_some, w64_1 hk (by omega)]
      cases (mpG k2 t.Reads[k].Key 0 == t.Reads[k].Ts) <;> rfl) (by omega)]
    cases hfi : t.Reads.findIdx? (fun s => !(mpG k2 s.Key 0 == s.Ts)) with
    | some k =>
      simp only [ob_some, Sum.elim_inr]
      rw [decide_eq_true (show ((k : Nat) : Int) ≥ 0 by omega), ifB_t]
      refine ⟨_, rfl, fun h => ?_, fun _ h => ?_⟩
      · exact absurd (show (60 : Int) = 0 from h) (by decide)
      · rw [h] at hfi; cases hfi
    | none =>
      simp only [ob_some, Sum.elim_inl]
      rw [show decide ((-1 : Int) ≥ 0) = false from rfl]
      have hnw := nW_le hf
      rw [ifB_f, size_p x (by omega) (by omega) hf (by omega)]
      simp only [ob_some]
      have e5 : (ifB ((((x.Open.length : Nat) : Int) == 2000)) (some true) (some (decide ((IntKind.i64.wrap (((x.Store.length + nW x.Open : Nat) : Int) + ((t.Writes.length : Nat) : Int))) > 4000))) : Option Bool) = some (!(decide (x.Open.length ≠ 2000) && decide (x.Store.length + nW x.Open + t.Writes.length ≤ 4000))) := by
        rw [show IntKind.i64.wrap (((x.Store.length + nW x.Open : Nat) : Int) + ((t.Writes.length : Nat) : Int)) = ((x.Store.length + nW x.Open + t.Writes.length : Nat) : Int) from by rw [IntKind.wrap_i64]; omega, dnot (p := ((x.Store.length + nW x.Open + t.Writes.length : Nat) : Int) > 4000) (q := x.Store.length + nW x.Open + t.Writes.length ≤ 4000) (by omega)]
        by_cases h : x.Open.length = 2000
        · rw [show (((x.Open.length : Nat) : Int) == 2000) = true from by simp [h], decide_eq_false (show ¬ x.Open.length ≠ 2000 by omega)]; rfl
        · rw [show (((x.Open.length : Nat) : Int) == 2000) = false from by rw [beq_eq_false_iff_ne]; omega, decide_eq_true (show x.Open.length ≠ 2000 by omega)]
          cases decide (x.Store.length + nW x.Open + t.Writes.length ≤ 4000) <;> rfl
      rw [e5, ob_some]
      cases h5 : (decide (x.Open.length ≠ 2000) && decide (x.Store.length + nW x.Open + t.Writes.length ≤ 4000)) with
      | false =>
        refine ⟨_, rfl, fun h => ?_, fun h _ => ?_⟩
        · exact absurd (show (2 : Int) = 0 from h) (by decide)
        · rw [decide_eq_true h.n, decide_eq_true h.s] at h5
          cases h5
      | true =>
        simp only [Bool.and_eq_true, decide_eq_true_eq] at h5
        have e6 : IntKind.i64.wrap (x.Last + 1) = x.Last + 1 := by rw [IntKind.wrap_i64]; omega
        rw [Bool.not_true, ifB_f, copied_p ht, ob_some, e6]
        by_cases h6 : max (x.Last + 1) b.Hi ≤ 3000000000000000
        · rw [decide_eq_false (by omega), ifB_f, apG_ok (by simp only [List.length_nil]; omega), ob_some]
          have hc := copies_p hf (by omega) (F := F) (by omega)
          unfold G_commit_copies at hc
          rw [hc]
          simp only [ob_some]
          rw [copied_p (t := ⟨t.ID, max (x.Last + 1) b.Hi, t.Reads, t.Writes⟩) ⟨hr, hw⟩, ob_some, apG_ok (by simp only [List.length_cons, List.length_nil]; omega), ob_some]
          exact ⟨_, rfl, fun _ => ⟨⟨hv, hi, hff, hz, h5.1, h5.2, h6⟩, rfl⟩, fun _ _ => rfl⟩
        · rw [decide_eq_true (by omega), ifB_t]
          refine ⟨_, rfl, fun h => ?_, fun h _ => ?_⟩
          · exact absurd (show (3 : Int) = 0 from h) (by decide)
          · exact absurd h.m h6
end Go.Proofs.Ytlfkgbideknkhaa
namespace Go.Proofs.Ytlfkgbideknkhaa
open Go.RowKit
theorem maxV_le {l : List KVersion} {a b : Int} (h : ∀ v ∈ l, v.Ts ≤ b) (ha : a ≤ b) : l.foldl (fun a v => max a v.Ts) a ≤ b := by
 induction l generalizing a with
 | nil => exact ha
 | cons v l ih =>
  have := h v List.mem_cons_self; exact ih (fun x hx => h x (List.mem_cons_of_mem _ hx)) (by show max a v.Ts ≤ b; omega)
theorem last_rng {ts : List KTx} (h : logS ts = true) : 0 ≤ lastT 0 ts ∧ lastT 0 ts ≤ 3000000000000000 := by
 obtain ⟨h1, h2⟩ := ris_log.1 h; refine ⟨(lastT_ge h2).2, ?_⟩; rw [last_of]; cases hg : ts.getLast? with
 | none => decide
 | some x => exact (h1 x (List.mem_of_getLast? hg)).ts.2
theorem stoS_ts {ts : List KTx} (h : logS ts = true) (hl : (vsOf ts).length ≤ 4000) : ∀ v ∈ (stoS ts).map Ver.k, v.Ts ≤ lastT 0 ts := by
 obtain ⟨m, h1, _, h3, _⟩ := puts_nil (ins_of h) hl; have e : stoS ts = m := by unfold stoS; rw [h1]
 intro v hv; obtain ⟨x, hx, rfl⟩ := List.mem_map.1 hv; rw [e] at hx; obtain ⟨t, ht, hx⟩ := List.mem_flatMap.1 (h3.mem_iff.1 hx); obtain ⟨w, _, rfl⟩ := List.mem_map.1 hx; exact (lastT_ge (ris_log.1 h).2).1 t ht
theorem ldr_valid {ts : List KTx} (h : logS ts = true) (hl : (vsOf ts).length ≤ 4000) : validL (ldr ts) = true := by
 obtain ⟨_, h2, h3⟩ := stoS_ok h hl; have hr := last_rng h; unfold validL ldr; simp only [map_vk, List.length_map, List.length_nil, chnR, show nW [] = 0 from rfl]; rw [(sto_iff _).2 h2, decide_eq_true hr.1, decide_eq_true hr.2, decide_eq_true (show (0 : Nat) ≤ 2000 by omega), decide_eq_true (show (stoS ts).length + 0 ≤ 4000 by omega), decide_eq_true (show maxV ((stoS ts).map Ver.k) ≤ lastT 0 ts from maxV_le (stoS_ts h hl) hr.1)]; rfl
theorem st_txs {x : KLeader} {t : KTx} {b : KInterval} (h : StOk x t b) : Txs (stT x t b) := by
 have hv := h.v; have hf := h.f; have hm := h.m; unfold validL at hv; simp only [Bool.and_eq_true, decide_eq_true_eq] at hv; refine (txs_iff _).1 ?_; unfold txF at hf; unfold txS stT; simp only [Bool.and_eq_true, decide_eq_true_eq] at hf ⊢; obtain ⟨⟨⟨⟨⟨⟨⟨⟨⟨h1, h2⟩, h3⟩, h4⟩, h5⟩, h6⟩, h7⟩, h8⟩, h9⟩, h10⟩ := hf; exact ⟨⟨⟨⟨⟨⟨⟨⟨⟨h1, h2⟩, by omega⟩, by omega⟩, h5⟩, h6⟩, h7⟩, h8⟩, h9⟩, h10⟩
theorem app_log {us : List KTx} {t : KTx} (h : logS us = true) (ht : Txs t) (ho : lastT 0 us < t.Ts) (hl : (logB us).length ≤ 90000) : appS (logB us) t = (logB (us ++ [t]), 0) := by
 have hr := recT_small ht; unfold appS; rw [(txs_iff _).2 ht, if_pos rfl, log_txs h, if_pos rfl, (old_last ht).2 ho, if_neg (by simp), if_pos (by omega), logB_app]; unfold logB; rw [List.flatMap_cons (x := t), List.flatMap_nil, List.append_nil]
theorem lastT_snoc (us : List KTx) (t : KTx) : lastT 0 (us ++ [t]) = t.Ts := by
 unfold lastT; rw [List.foldl_append]; rfl
theorem law37_goesOn {b : List Int} {t : KTx} {i : KInterval} (hb : ∀ y ∈ b, inKd .u8 y) : G_regulatorlaw37_JournalGoesOn 300000 b t i = some true := by
  have hB := by_take hb 3000
  have hl : (b.take 3000).length ≤ 3000 := by rw [List.length_take]; omega
  unfold G_regulatorlaw37_JournalGoesOn
  rw [head37 (Nat.le_refl _), ob_some, few_p, ob_some, fewOne t (by omega), ob_some]
  cases hf : fewTB t with
  | false => rfl
  | true =>
    have ht := fewT_iff.1 hf
    rw [ifB_t]
    generalize b.take 3000 = c at hB hl
    have hc := txs_count hB
    have hv := vs_small hB (by omega)
    have hlog := txs_log c
    have hlen := txs_len hB
    obtain ⟨rest, hrest⟩ := txs_parts hB
    have hsto := stoS_ok hlog hv
    have hld := ldr_valid hlog hv
    rw [recover_p hB (by omega) hv (by omega), load_p hB (by omega) (by omega)]
    generalize txsS c = ts at hc hv hlog hlen hrest hsto hld ⊢
    have hts := (ris_log.1 hlog).1
    have hr := last_rng hlog
    simp only [ob_some, un3]
    have hsl : (ldr ts).Store.length ≤ 4000 := by show ((stoS ts).map Ver.k).length ≤ 4000; rw [List.length_map]; omega
    have ho0 : (ldr ts).Open = [] := rfl
    rw [show ((0 : Int) == 0) = true from rfl, ifB_t, ifB_t, beq_self_eq_true, ifB_t, decide_eq_false (by omega), ifB_f, decide_eq_false (by omega), ifB_f, valid_p (ldr ts) (by omega) (by rw [ho0]; simp) (fun t ht => absurd ht (by rw [ho0]; exact List.not_mem_nil)) (by omega), hld]
    simp only [ob_some]
    rw [ifB_t, ho0, show (!((((([] : List KTx).length : Nat) : Int) == 0))) = false from rfl]
    simp only [ob_some]
    rw [ifB_f]
    obtain ⟨⟨x, y, z⟩, e1, e2, _⟩ := stamp_p (x := ldr ts) (t := t) (b := i) hsl (by rw [ho0]; simp) (fun t ht => absurd ht (by rw [ho0]; exact List.not_mem_nil)) ht (F := 300000) (Nat.le_refl _)
    rw [e1]
    simp only [ob_some, un3]
    by_cases hz : z = 0
    · subst hz
      obtain ⟨hst, e3⟩ := e2 rfl
      simp only [Prod.mk.injEq, and_true] at e3
      obtain ⟨rfl, rfl⟩ := e3
      have hT := st_txs hst
      have hTs : (stT (ldr ts) t i).Ts = max (lastT 0 ts + 1) i.Hi := rfl
      have hm := hst.m
      have hss := hst.s
      rw [ho0, show nW [] = 0 from rfl] at hss
      rw [show (ldr ts).Last = lastT 0 ts from rfl] at hm
      have hge := lastT_ge (ris_log.1 hlog).2
      rw [show ((0 : Int) == 0) = true from rfl, ifB_t]
      have hloop := iter_seq (f := un2 fun (v_51 : Bool) (v_52 : Int) => 
                (ifB (decide (v_52 < ((ts.length : Nat) : Int)))
                  (Option.bind (Option.bind (ixI ts v_52) (fun v_55 =>
                    ifB (v_51)
                      (ifB (decide (v_55.Ts < (stT (ldr ts) t i).Ts))
                        (some (decide (v_55.Ts ≤ (ldr ts).Last)))
                        (some false))
                      (some false)) : Option (Bool)) (fun (v_62 : Bool) => 
                    some (.inl (v_62, IntKind.i64.wrap (v_52 + 1)))))
                  (some (.inr v_51)) : Option ((Bool × Int) ⊕ Bool))) (fun k => (true, (k : Int))) ts.length true (fun k hk => by
        have h1 := hge.1 _ (List.getElem_mem hk)
        simp only [un2, ltl hk, ifB_t, ixI_get hk, ob_some]
        rw [decide_eq_true (show ts[k].Ts < (stT (ldr ts) t i).Ts by rw [hTs]; omega), ifB_t, decide_eq_true (show ts[k].Ts ≤ (ldr ts).Last from h1)]
        simp only [ob_some]
        rw [w64_nat (by omega)]) (by simp only [un2, ltn, ifB_f]) (F := 300000) (by omega)
      rw [show ((0 : Nat) : Int) = 0 from rfl] at hloop
      rw [hloop]
      simp only [ob_some]
      have hslc := slI_ok (l := c) (p := 0) (q := (logB ts).length) (Nat.zero_le _) hlen
      rw [show ((0 : Nat) : Int) = 0 from rfl, List.drop_zero] at hslc
      have htk : c.take (logB ts).length = logB ts := by rw [hrest, List.take_left]
      have hlast : lastT 0 ts < (stT (ldr ts) t i).Ts := by rw [hTs]; omega
      have hlog2 := log_snoc hlog hT hlast
      have hb2 := logB_by (ris_log.1 hlog2).1
      have hl2 : (logB (ts ++ [stT (ldr ts) t i])).length ≤ 4000 := by
        have := recT_small hT
        rw [logB_app, List.length_append]
        unfold logB at hlen ⊢
        rw [List.flatMap_cons (x := stT (ldr ts) t i), List.flatMap_nil, List.append_nil]
        omega
      have hv2 : (vsOf (ts ++ [stT (ldr ts) t i])).length ≤ 4000 := by
        rw [vs_app, List.length_append, vsOf_one, show (vsT (stT (ldr ts) t i)).length = t.Writes.length from List.length_map _]
        rw [show (ldr ts).Store.length = (stoS ts).length from List.length_map _] at hss
        omega
      rw [hslc, htk]
      simp only [ob_some]
      rw [app_p (logB_by hts) (by omega) hT.fewT (by omega), app_log hlog hT hlast (by omega)]
      simp only [ob_some, un2]
      rw [recover_p hb2 (by omega) (by rw [log_txs hlog2]; exact hv2) (by omega), log_txs hlog2]
      simp only [ob_some, un3]
      by_cases hmax : (stT (ldr ts) t i).Ts = 3000000000000000
      · rw [show ((stT (ldr ts) t i).Ts == 3000000000000000) = true from by simpa using hmax, ifB_t]
        rfl
      · rw [show ((stT (ldr ts) t i).Ts == 3000000000000000) = false from by simpa using hmax, ifB_f]
        have hT3 := hT.ts
        have ew : IntKind.i64.wrap ((stT (ldr ts) t i).Ts + 1) = (stT (ldr ts) t i).Ts + 1 := by rw [IntKind.wrap_i64]; omega
        rw [ew, show max ((ldr ts).Last + 1) i.Hi = (stT (ldr ts) t i).Ts from rfl]
        have hsto2 := stoS_ok hlog2 hv2
        have hput : putsS (stoS ts) (vsT (stT (ldr ts) t i)) = (stoS (ts ++ [stT (ldr ts) t i]), 0) := by
          have h1 := hsto2.1
          rw [vs_app, vsOf_one] at h1
          obtain ⟨m, h2, h3⟩ := puts_app h1
          rw [hsto.1] at h2
          cases h2
          exact h3
        have hvy : validL ⟨(stT (ldr ts) t i).Ts, (ldr ts).Store, [stT (ldr ts) t i]⟩ = true := by
          have hm1 : maxV (ldr ts).Store < (stT (ldr ts) t i).Ts := by
            have := maxV_le (stoS_ts hlog hv) hr.1
            exact Int.lt_of_le_of_lt this hlast
          have htx : txF (stT (ldr ts) t i) = true := by
            have := (txs_iff _).2 hT
            rw [txS_F, Bool.and_eq_true] at this
            exact this.1
          unfold validL
          simp only [chnR, show (ldr ts).Store = (stoS ts).map Ver.k from rfl, map_vk, List.length_map, List.length_cons, List.length_nil]
          rw [show (ldr ts).Store = (stoS ts).map Ver.k from rfl] at hm1
          rw [(sto_iff _).2 hsto.2.1, htx, decide_eq_true hm1]
          rw [show (ldr ts).Store.length = (stoS ts).length from List.length_map _] at hss
          have hn1 : nW [stT (ldr ts) t i] = t.Writes.length := Nat.add_zero _
          simp only [hn1]
          simp
          omega
        rw [show (ldr ts).Open ++ [stT (ldr ts) t i] = [stT (ldr ts) t i] from rfl]
        rw [show_p (x := ⟨(stT (ldr ts) t i).Ts, (ldr ts).Store, [stT (ldr ts) t i]⟩) hvy (by unfold ivB; simp; omega) (fun t' ht' => by rw [List.mem_singleton.1 ht']; exact ⟨ht.r, ht.w⟩) (fun t' ht' => by rw [List.mem_singleton.1 ht']; show (stT (ldr ts) t i).Ts < (stT (ldr ts) t i).Ts + 1; omega) (m := stoS (ts ++ [stT (ldr ts) t i])) (by
          show putsS (((stoS ts).map Ver.k).map KVersion.v) (vsOf [stT (ldr ts) t i]) = _
          rw [map_vk, vsOf_one]; exact hput) (Nat.le_refl _)]
        simp only [ob_some, un3]
        have hsame : ldr (ts ++ [stT (ldr ts) t i]) = ⟨(stT (ldr ts) t i).Ts, (stoS (ts ++ [stT (ldr ts) t i])).map Ver.k, []⟩ := by
          unfold ldr
          rw [lastT_snoc]
        rw [hsame, same34_r _ _ (by show ((stoS _).map Ver.k).length ≤ _; rw [List.length_map]; omega) (by show ([] : List KTx).length ≤ _; simp) (fun t ht => absurd ht List.not_mem_nil) (by omega)]
        simp only [ob_some, decide_true, ifB_t, beq_self_eq_true]
    · rw [show (z == 0) = false from by simpa using hz, ifB_f]
end Go.Proofs.Ytlfkgbideknkhaa
