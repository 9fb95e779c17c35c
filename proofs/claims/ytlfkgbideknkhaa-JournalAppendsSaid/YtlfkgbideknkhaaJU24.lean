/-
  Texts joined: Sh37.
-/
import Derived.Test.YtlfkgbideknkhaaJU23
set_option linter.unusedSimpArgs false
set_option linter.unusedVariables false
namespace Go.Proofs.Ytlfkgbideknkhaa
open Go.RowKit
theorem few_p (b : List Int) (F : Nat) : G_regulatorlaw37_few F b = some (b.take 3000) := by
 unfold G_regulatorlaw37_few; have e : min ((b.length : Nat) : Int) 3000 = ((min b.length 3000 : Nat) : Int) := by omega
 rw [e, show (0 : Int) = ((0 : Nat) : Int) from rfl, slI_ok (Nat.zero_le _) (by omega), ob_some, List.drop_zero]
 congr 1
 rcases Nat.le_total b.length 3000 with h | h
 ·rw [Nat.min_eq_left h, List.take_length, List.take_of_length_le h]
 ·rw [Nat.min_eq_right h]
theorem by_take {b : List Int} (h : ∀ y ∈ b, inKd .u8 y) (n : Nat) : By (b.take n) := fun x hx => by
 obtain ⟨h1, h2⟩ := inKd_u8 (h x (List.mem_of_mem_take hx)); omega
theorem fewOne (t : KTx) {F : Nat} (hF : 2 ≤ F) : G_regulatorref34_FewTxs F [t] = some (fewTB t) := by
 rw [fewTxs_r [t] (by simp only [List.length_cons, List.length_nil]; omega) (by simp)]
 simp
theorem old_spec {ts : List KTx} {t : KTx} : oldB ts t = false ↔ ∀ x, ts.getLast? = some x → x.Ts < t.Ts := by
 unfold oldB; cases h : ts.getLast? with
 | none => simp
 | some x => simp
theorem last_of (ts : List KTx) (a : Int) : lastT a ts = match ts.getLast? with | some x => x.Ts | none => a := by
 rcases List.eq_nil_or_concat ts with rfl | ⟨us, u, rfl⟩
 ·rfl
 ·rw [List.concat_eq_append, List.getLast?_append]; unfold lastT; rw [List.foldl_append]; rfl
theorem lastT_ge {a : Int} : ∀ {ts : List KTx}, (a :: ts.map (·.Ts)).Pairwise (· < ·) → (∀ x ∈ ts, x.Ts ≤ lastT a ts) ∧ a ≤ lastT a ts
 | [], _ => ⟨fun _ h => absurd h List.not_mem_nil, Int.le_refl _⟩
 | t :: ts, h => by
  rw [List.map_cons] at h; obtain ⟨h1, h2⟩ := List.pairwise_cons.1 h; obtain ⟨h3, h4⟩ := lastT_ge (a := t.Ts) h2; have h5 := h1 t.Ts List.mem_cons_self; refine ⟨fun x hx => ?_, ?_⟩
  ·rcases List.mem_cons.1 hx with rfl | hx
   ·exact h4
   ·exact h3 x hx
  ·show a ≤ lastT t.Ts ts
   omega
theorem log_snoc {ts : List KTx} {t : KTx} (h : logS ts = true) (ht : Txs t) (ho : lastT 0 ts < t.Ts) : logS (ts ++ [t]) = true := by
 obtain ⟨h1, h2⟩ := ris_log.1 h; refine ris_log.2 ⟨fun x hx => ?_, ?_⟩
 ·rcases List.mem_append.1 hx with hx | hx
  ·exact h1 x hx
  ·rw [List.mem_singleton.1 hx]; exact ht
 ·rw [List.map_append, ← List.cons_append, List.pairwise_append]; refine ⟨h2, by simp, fun x hx y hy => ?_⟩; simp only [List.map_cons, List.map_nil, List.mem_singleton] at hy; subst hy; obtain ⟨g1, g2⟩ := lastT_ge h2; rcases List.mem_cons.1 hx with rfl | hx
  ·omega
  ·obtain ⟨z, hz, rfl⟩ := List.mem_map.1 hx; have := g1 z hz; omega
theorem old_last {ts : List KTx} {t : KTx} (ht : Txs t) : oldB ts t = false ↔ lastT 0 ts < t.Ts := by
 rw [old_spec, last_of]; cases ts.getLast? with
 | none => have := ht.ts.1; simp; omega
 | some x => simp
theorem log_full {b : List Int} (hb : By b) (h : (logB (txsS b)).length = b.length) : b = logB (txsS b) := by
 obtain ⟨rest, e⟩ := txs_parts hb; have h1 := congrArg List.length e; rw [List.length_append] at h1; obtain rfl : rest = [] := List.eq_nil_of_length_eq_zero (by omega); rw [List.append_nil] at e; exact e
theorem txs_add {b : List Int} {t : KTx} (hb : By b) (h : (logB (txsS b)).length = b.length) (ht : Txs t) (ho : oldB (txsS b) t = false) : txsS (b ++ recT t) = txsS b ++ [t] ∧ logS (txsS b ++ [t]) = true ∧ b ++ recT t = logB (txsS b ++ [t]) := by
 have h1 := log_snoc (txs_log b) ht ((old_last ht).1 ho); have h2 : b ++ recT t = logB (txsS b ++ [t]) := by
  rw [logB_app, ← log_full hb h]; unfold logB; rw [List.flatMap_cons, List.flatMap_nil, List.append_nil]
 exact ⟨by rw [h2, log_txs h1], h1, h2⟩
theorem law37_appends {b : List Int} {t : KTx} (hb : ∀ y ∈ b, inKd .u8 y) : G_regulatorlaw37_JournalAppends 300000 b t = some true := by
 have hB := by_take hb 3000; have hl : (b.take 3000).length ≤ 3000 := by rw [List.length_take]; omega
 unfold G_regulatorlaw37_JournalAppends; rw [head37 (Nat.le_refl _), ob_some, few_p, ob_some, fewOne t (by omega), ob_some]; cases hf : fewTB t with
 | false => rfl
 | true =>
  have ht := fewT_iff.1 hf; have hc := txs_count hB; rw [ifB_t, app_p hB (by omega) ht (by omega), load_p hB (by omega) (by omega)]; simp only [ob_some, un2, un3]; rw [show ((0 : Int) == 0) = true from rfl, ifB_t]; have ho := old_ix (txsS (b.take 3000)) t (by omega); rw [obs] at ho; rw [ho]; generalize hb2 : b.take 3000 = c at hB hl hc; unfold appS; cases hx : txS t with
  | false => rfl
  | true =>
   have hT := (txs_iff t).1 hx; have hr := recT_len hT; rw [if_pos rfl]
   by_cases h1 : (logB (txsS c)).length = c.length
   ·rw [if_pos h1, leq, decide_eq_true h1]; cases h2 : oldB (txsS c) t with
    | true => rfl
    | false =>
     obtain ⟨e1, e2, e3⟩ := txs_add hB h1 hT h2; rw [if_neg (by simp), if_pos (by omega)]; simp only; rw [show ((0 : Int) == 0) = true from rfl, ifB_t, load_p (by rw [e3]; exact logB_by (ris_log.1 e2).1) (by rw [List.length_append]; omega) (by omega)]; simp only [ob_some, un3]; rw [e1, ← e3, leq, decide_eq_true rfl, show ((0 : Int) == 0) = true from rfl, ifB_t, ifB_t, ifB_t, ifB_t, apG_ok (by simp only [List.length_nil]; omega), ob_some, List.nil_append, apG_ok (by simp only [List.length_cons, List.length_nil]; omega), ob_some, sTxs_r _ _ (by simp only [List.length_append, List.length_cons, List.length_nil]; omega) (fun x hx => ((ris_log.1 e2).1 x hx).fewT) (by omega), decide_eq_true rfl]; rfl
   ·rw [if_neg h1, leq, decide_eq_false h1]; rfl
end Go.Proofs.Ytlfkgbideknkhaa
